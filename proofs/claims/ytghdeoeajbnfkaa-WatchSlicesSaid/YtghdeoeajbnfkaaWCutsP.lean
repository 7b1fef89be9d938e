/- Cuts of three memories: the pure part, and what the memories hold. -/
import Derived.Test.YtghdeoeajbnfkaaWLarge
import Derived.Test.YtghdeoeajbnfkaaWBClone
namespace Go.Proofs.Ytghdeoeajbnfkaa.WSl
open Go.RowKit Go.Proofs.YtghdeoeajbnfkaaW.PrintWords Go.Proofs.YtghdeoeajbnfkaaW.PrintLast Go.Proofs.YtghdeoeajbnfkaaW.PrintMore Go.Proofs.Ytghdeoeajbnfkaa.WMem
set_option linter.unusedSimpArgs false
set_option linter.unusedVariables false

/-- A cut: memory, first position, end. -/
structure Cu where
  m : Nat
  f : Nat
  t : Nat
def Cu.vals (x : Cu) : List Value := [.int .i64 x.m, .int .i64 x.f, .int .i64 x.t]
def Cu.ok (x : Cu) : Prop := x.m < 3 ∧ x.f ≤ x.t ∧ x.t ≤ 60
def Cu.room (x : Cu) : Nat := if x.m = 2 then 60 else x.t
/-- Its slice, where memory i lies at block mm i. -/
def slOf (mm : Nat → Nat) (x : Cu) : Sl := ⟨mm x.m, if x.room = x.f then 0 else x.f, x.t - x.f, x.room - x.f, false⟩

def cuK : Kd Cu where
  sz := 3
  E := []
  K _ x cs := cs = x.vals
  M _ _ _ x cs := cs = x.vals
  K_len := by rintro w x cs rfl; rfl
  K_one := by
    rintro w x cs rfl u hu
    simp only [Cu.vals, List.mem_cons, List.mem_nil_iff, or_false] at hu
    rcases hu with rfl | rfl | rfl <;> rfl
  K_below := fun _ h => h
  K_of_M := fun h => h
  M_mono := fun _ h => h
  M_bound := fun h => h
  M_move := fun _ h => h
  M_lower := fun _ h => h
theorem cuAt {w : World} {A : Option Addr} {n : Nat} {xs : List Cu} (h : Kd.C cuK w A n xs) (k : Nat) (x : Cu) (hx : xs[k]? = some x) : ∃ ad, A = some ad ∧ w.cell? (ad.add (k * 3)) = some (.int .i64 x.m) ∧ w.cell? ⟨(ad.add (k * 3)).block, (ad.add (k * 3)).off + 1, none⟩ = some (.int .i64 x.f) ∧ w.cell? ⟨(ad.add (k * 3)).block, (ad.add (k * 3)).off + 2, none⟩ = some (.int .i64 x.t) := by
  have hk : k < xs.length := (List.getElem?_eq_some_iff.1 hx).1
  obtain ⟨ad, e, hc⟩ := h.2.2 (by have := h.1; omega)
  obtain ⟨c, _, hK, hcell⟩ := hc k x hx
  have hK' : c = x.vals := hK
  subst hK'
  have h6 : ∀ i v, x.vals[i]? = some v → w.cell? (ad.add (k * 3 + i)) = some v := hcell
  exact ⟨ad, e, h6 0 _ rfl, by rw [← add_field _ _ 1 (by omega)]; exact h6 1 _ rfl, by rw [← add_field _ _ 2 (by omega)]; exact h6 2 _ rfl⟩

theorem slVal_one (s : Sl) : s.val.oneCell' = true := rfl
abbrev slK : Kd Sl := Kd.scalar Sl.val slVal_one

/-- The three memories, and the row of them at g. -/
structure Mems (w wc : World) (g : Nat) (mm : Nat → Nat) : Prop where
  below : Below w.heap.size w wc
  mem : ∀ i, i < 3 → ∀ j, j < 60 → ∃ x : Int, wc.cell? ⟨mm i, j, none⟩ = some (.int .u8 x) ∧ wc.frozen? ⟨mm i, j, none⟩ = false
  hdr : ∀ i, i < 3 → wc.cell? ⟨g, i, none⟩ = some (.slice (some ⟨mm i, 0, none⟩) 60 60)
  new : ∀ i, i < 3 → w.heap.size ≤ mm i ∧ mm i < wc.heap.size ∧ mm i ≠ g
  newg : w.heap.size ≤ g ∧ g < wc.heap.size
  inj : ∀ i j, i < 3 → j < 3 → mm i = mm j → i = j

theorem Mems.drewN {w wc : World} {g : Nat} {mm : Nat → Nat} (h : Mems w wc g mm) (n : Nat) : Mems w (wc.drewN n) g mm :=
  ⟨pw_below_drewN h.below n, h.mem, h.hdr, h.new, h.newg, h.inj⟩
theorem Mems.drew {w wc : World} {g : Nat} {mm : Nat → Nat} (h : Mems w wc g mm) : Mems w wc.drew g mm :=
  ⟨h.below.drew, h.mem, h.hdr, h.new, h.newg, h.inj⟩
theorem Mems.later {w wc w2 : World} {g : Nat} {mm : Nat → Nat} (h : Mems w wc g mm) (hb : Below wc.heap.size wc w2) : Mems w w2 g mm := by
  have hs := hb.size
  refine ⟨h.below.trans (hb.mono h.below.size), fun i hi j hj => ?_, fun i hi => ?_, fun i hi => ⟨(h.new i hi).1, by have := (h.new i hi).2.1; omega, (h.new i hi).2.2⟩, ⟨h.newg.1, by have := h.newg.2; omega⟩, h.inj⟩
  · obtain ⟨x, hx, hf⟩ := h.mem i hi j hj
    exact ⟨x, by rw [← hx]; exact hb.cell (p := ⟨mm i, j, none⟩) (h.new i hi).2.1, by rw [← hf]; exact hb.frozen (p := ⟨mm i, j, none⟩) (h.new i hi).2.1⟩
  · rw [← h.hdr i hi]
    exact hb.cell (p := ⟨g, i, none⟩) h.newg.2
/-- An octet is written. -/
theorem Mems.set {w wc : World} {g : Nat} {mm : Nat → Nat} (h : Mems w wc g mm) (i j : Nat) (x : Int) (hi : i < 3) (hj : j < 60) : Mems w (wc.setCell ⟨mm i, j, none⟩ (.int .u8 x)) g mm := by
  refine ⟨h.below.setCell (p := ⟨mm i, j, none⟩) (h.new i hi).1 _, fun i' hi' j' hj' => ?_, fun i' hi' => ?_, fun i' hi' => ⟨(h.new i' hi').1, by simpa [World.setCell] using (h.new i' hi').2.1, (h.new i' hi').2.2⟩, ⟨h.newg.1, by simpa [World.setCell] using h.newg.2⟩, h.inj⟩
  · obtain ⟨y, hy, hf⟩ := h.mem i' hi' j' hj'
    by_cases he : mm i = mm i' ∧ j = j'
    · obtain ⟨e1, e2⟩ := he
      rw [e1, e2]
      exact ⟨x, World.cell?_setCell_same _ _ _ hy, by rw [World.frozen?_setCell]; exact hf⟩
    · exact ⟨y, by rw [World.cell?_setCell_other (h := at_ne (fun e => he ⟨e.1, e.2⟩))]; exact hy, by rw [World.frozen?_setCell]; exact hf⟩
  · exact (World.cell?_setCell_far _ _ _ _ (show mm i ≠ g from (h.new i hi).2.2)).trans (h.hdr i' hi')

def three (a b d : Nat) : Nat → Nat := fun i => if i = 0 then a else if i = 1 then b else d

theorem mems_of (w : World) (cs : Array Value) (hcs : ∀ j, j < 60 → cs[j]? = some (.int .u8 0)) (a b d : Nat) (ha : w.heap.size ≤ a ∧ a < w.heap.size + 3) (hb : w.heap.size ≤ b ∧ b < w.heap.size + 3) (hd : w.heap.size ≤ d ∧ d < w.heap.size + 3) (hab : a ≠ b) (had : a ≠ d) (hbd : b ≠ d) :
    Mems w ((((w.alloc (.cells cs 5)).alloc (.cells cs 5)).alloc (.cells cs 5)).alloc (.cells #[.slice (some ⟨a, 0, none⟩) 60 60, .slice (some ⟨b, 0, none⟩) 60 60, .slice (some ⟨d, 0, none⟩) 60 60] 22)) (w.heap.size + 3) (three a b d) := by
  have e1 : (w.alloc (.cells cs 5)).heap.size = w.heap.size + 1 := by simp
  have e2 : ((w.alloc (.cells cs 5)).alloc (.cells cs 5)).heap.size = w.heap.size + 2 := by simp
  have e3 : (((w.alloc (.cells cs 5)).alloc (.cells cs 5)).alloc (.cells cs 5)).heap.size = w.heap.size + 3 := by simp
  have hg := blk_new (((w.alloc (.cells cs 5)).alloc (.cells cs 5)).alloc (.cells cs 5)) (.cells #[.slice (some ⟨a, 0, none⟩) 60 60, .slice (some ⟨b, 0, none⟩) 60 60, .slice (some ⟨d, 0, none⟩) 60 60] 22)
  rw [e3] at hg
  have hm : ∀ k, w.heap.size ≤ k → k < w.heap.size + 3 → ((((w.alloc (.cells cs 5)).alloc (.cells cs 5)).alloc (.cells cs 5)).alloc (.cells #[.slice (some ⟨a, 0, none⟩) 60 60, .slice (some ⟨b, 0, none⟩) 60 60, .slice (some ⟨d, 0, none⟩) 60 60] 22)).heap[k]? = some (.cells cs 5) := by
    intro k h0 h1
    rw [Below.heap_alloc _ _ _ (by rw [e3]; exact h1)]
    by_cases h2 : k = w.heap.size + 2
    · subst h2
      have := blk_new ((w.alloc (.cells cs 5)).alloc (.cells cs 5)) (.cells cs 5)
      rwa [e2] at this
    · rw [Below.heap_alloc _ _ _ (by rw [e2]; omega)]
      by_cases h3 : k = w.heap.size + 1
      · subst h3
        have := blk_new (w.alloc (.cells cs 5)) (.cells cs 5)
        rwa [e1] at this
      · rw [Below.heap_alloc _ _ _ (by rw [e1]; omega)]
        obtain rfl : k = w.heap.size := by omega
        exact blk_new _ _
  have ht : ∀ i, i < 3 → w.heap.size ≤ three a b d i ∧ three a b d i < w.heap.size + 3 := fun i hi => by
    unfold three
    split
    · exact ha
    · split
      · exact hb
      · exact hd
  have hs : ((((w.alloc (.cells cs 5)).alloc (.cells cs 5)).alloc (.cells cs 5)).alloc (.cells #[.slice (some ⟨a, 0, none⟩) 60 60, .slice (some ⟨b, 0, none⟩) 60 60, .slice (some ⟨d, 0, none⟩) 60 60] 22)).heap.size = w.heap.size + 4 := by simp
  refine ⟨by repeat (first | exact Below.refl _ _ | apply below_alloc), fun i hi j hj => ⟨0, ?_, ?_⟩, fun i hi => ?_, fun i hi => ⟨(ht i hi).1, by rw [hs]; have := (ht i hi).2; omega, by have := (ht i hi).2; omega⟩, ⟨by omega, by rw [hs]; omega⟩, fun i j hi hj he => ?_⟩
  · rw [blk_cell (hm _ (ht i hi).1 (ht i hi).2), hcs j hj]
  · exact blk_frozen (hm _ (ht i hi).1 (ht i hi).2) j
  · rw [blk_cell hg]
    match i, hi with
    | 0, _ => rfl
    | 1, _ => rfl
    | 2, _ => rfl
  · unfold three at he
    match i, j, hi, hj with
    | 0, 0, _, _ => rfl
    | 0, 1, _, _ => simp at he; omega
    | 0, 2, _, _ => simp at he; omega
    | 1, 0, _, _ => simp at he; omega
    | 1, 1, _, _ => rfl
    | 1, 2, _, _ => simp at he; omega
    | 2, 0, _, _ => simp at he; omega
    | 2, 1, _, _ => simp at he; omega
    | 2, 2, _, _ => rfl

/-- The slice of a cut lies in its memory. -/
theorem cu_lies {w wc : World} {g : Nat} {mm : Nat → Nat} (h : Mems w wc g mm) (x : Cu) (hx : x.ok) : Lies wc (slOf mm x) := by
  obtain ⟨h1, h2, h3⟩ := hx
  have hr : x.t ≤ x.room ∧ x.room ≤ 60 := by
    unfold Cu.room
    split <;> omega
  refine ⟨fun h => by simp [slOf] at h, ?_, ?_, fun j hj => ?_⟩
  · show x.t - x.f ≤ x.room - x.f
    omega
  · show x.t - x.f ≤ 1000000
    omega
  · have hj : j < x.t - x.f := hj
    have : (slOf mm x).o = x.f := by
      show (if x.room = x.f then 0 else x.f) = x.f
      rw [if_neg (by omega)]
    rw [this]
    exact h.mem x.m h1 (x.f + j) (by omega)

/-- The row of the slices. -/
theorem rowAt_of {w : World} {base : Nat} {ok : Nat → Prop} {A : Option Addr} {n c : Nat} {l : List Sl} (h : Kd.R slK 22 w base ok (.slice A n c) l) : ∃ g, RowAt w A g 0 l ∧ (0 < l.length → base ≤ g ∧ g < w.heap.size) := by
  by_cases h0 : 0 < l.length
  · obtain ⟨g, cap, he, hg, hlt, cells, hbk⟩ := Kd.R_form h h0
    injection he with he1 _ _
    refine ⟨g, ⟨fun _ => he1, fun i s hi => ?_⟩, fun _ => ⟨hg, hlt⟩⟩
    subst he1
    have hil : i < l.length := (List.getElem?_eq_some_iff.1 hi).1
    have hn : n = l.length := (Kd.R_reads' h).1
    obtain ⟨r1, _⟩ := Kd.R_celln sl0 h (i : Int) (by omega) (by omega)
    rw [Int.toNat_natCast] at r1
    have : rdOf sl0 l (i : Int) = s := by
      unfold rdOf
      rw [Int.toNat_natCast, List.getD_eq_getElem?_getD, hi]
      rfl
    rw [this] at r1
    rw [Nat.zero_add]
    exact r1
  · have : l = [] := List.length_eq_zero_iff.1 (by omega)
    subst this
    exact ⟨0, ⟨fun h => by simp at h, fun i s hi => by simp at hi⟩, fun h => by simp at h⟩

/-- x[lo:hi:m]. -/
theorem sub_cut (A : Addr) (x : Cu) (hx : x.ok) : ∀ W : World, (Instr.slice 22 (.slice (some A) 60 60) (some (.int .i64 x.f)) (some (.int .i64 x.t)) (some (.int .i64 x.room))).run Try.prog W = .ok (.slice (if x.room = x.f then some A else some (A.add x.f)) (x.t - x.f) (x.room - x.f)) W := by
  obtain ⟨h1, h2, h3⟩ := hx
  have hr : x.t ≤ x.room ∧ x.room ≤ 60 := by
    unfold Cu.room
    split <;> omega
  obtain ⟨i0, hi0, hz0, hz1, hz2⟩ := info_parts infoU8
  have hel : Try.prog.elem 22 = 5 := by simp [Program.elem, Try.underlying22]
  have hu : Try.prog.underlying 22 = some (.slice (Try.prog.elem 22)) := by rw [hel]; exact Try.underlying22
  intro W
  rw [run_slice_lhm W 22 (some A) 60 60 hu .i64 .i64 .i64 x.f x.t x.room (by omega) (by omega) (by omega) (by omega), hel]
  simp [sizeOf, typeInfo, hi0, hz1, sliced, Result.andThen]
theorem slOf_val (mm : Nat → Nat) (x : Cu) : (slOf mm x).val = .slice (if x.room = x.f then some ⟨mm x.m, 0, none⟩ else some ((⟨mm x.m, 0, none⟩ : Addr).add x.f)) (x.t - x.f) (x.room - x.f) := by
  unfold slOf Sl.val Sl.A
  rw [add_at, Nat.zero_add]
  by_cases h : x.room = x.f
  · simp [h]
  · simp [h]

end Go.Proofs.Ytghdeoeajbnfkaa.WSl
