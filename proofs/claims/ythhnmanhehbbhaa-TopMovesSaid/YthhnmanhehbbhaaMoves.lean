/- TopMoves: a look at a ring shares with it just as long as its Room does not change. -/
import Derived.Test.YthhnmanhehbbhaaRing4
namespace Go.Proofs.Ythhnmanhehbbhaa.Ring
set_option linter.unusedVariables false
open Go.RowKit Go.Proofs.YthhnmanhehbbhaaW.PrintWords Go.Proofs.YthhnmanhehbbhaaW.PrintLast Go.Proofs.YthhnmanhehbbhaaW.PrintMore Go.Proofs.Ythhnmanhehbbhaa.Book Go.Proofs.Ythhnmanhehbbhaa.Oct Go.Proofs.Ythhnmanhehbbhaa.Pure
set_option linter.unusedSimpArgs false

set_option maxRecDepth 100000 in
theorem newBook_bad (budget : Int) (w : World) (hb : ¬ (0 ≤ budget ∧ budget ≤ 10000000)) :
    Calls Try.prog 14 #[.int .i64 budget] w fun e w' => e = .returned (.tuple #[.pointer none, .int .i64 2]) ∧ w = w' := by
  have hd : decide (0 ≤ budget ∧ budget ≤ 10000000) = false := decide_eq_false hb
  go_enter Try.func14, Try.ntmps14
  go_wp2_with (first | (go_at_call 118; refine (Book.within _ _ _ _).mono ?_; rintro e w' ⟨rfl, rfl⟩; rw [hd]))
  go_ret2
  exact ⟨rfl, rfl⟩
set_option maxRecDepth 100000 in
theorem awakeLedger (w : World) : Calls Try.prog 13 #[] w fun e w' => e = .returned (.bool true) ∧ w = w' := by
  go_enter Try.func13, Try.ntmps13
  go_wp2_with (first | (go_at_call 14; refine (newBook_bad (-1) w (by omega)).mono ?_; rintro e w' ⟨rfl, rfl⟩))
  go_ret
  exact ⟨rfl, rfl⟩

/-- The book that has one account, number 1, which may hold all. -/
def bk0 : BookS := { (⟨10000000, 0, 0, 0, [], [], []⟩ : BookS) with accs := [] ++ [(1, ⟨10000000, 0, 0⟩)], entries := [] ++ [[.int .i64 1, .int .i64 1, .int .i64 0, .int .i64 10000000, .int .i64 0, .int .i64 0]] }
theorem bk0_OK : bk0.OK where
  b0 := by simp [bk0]
  b1 := by simp [bk0]
  t0 := by simp [bk0]
  t1 := by simp [bk0]
  accs := fun x hx => by
    simp [bk0] at hx
    subst hx
    simp
  sum := by simp [bk0]
theorem newBook_foot {B : Nat} : ∀ k, Parts.Foot (B + 1) ⟨B, [], .slice none 0 0, .slice none 0 0⟩ k → B ≤ k := fun k hk => by
  rcases hk with h | h | h | h | h
  · omega
  · exact Nat.le_of_eq h.symm
  · simp at h
  · simp [Value.ownBlock] at h
  · simp [Value.ownBlock] at h
/-- NewBook and Open, one after the other. -/
theorem opened {w w1 w2 : World} {B : Nat} {q : Parts} (hB : w.heap.size = B) (hb : Below w.heap.size w w1) (hk : Upd (Parts.Foot (B + 1) ⟨B, [], .slice none 0 0, .slice none 0 0⟩) w1 w2) (hf : ∀ k, q.Foot (B + 1) k → Parts.Foot (B + 1) ⟨B, [], .slice none 0 0, .slice none 0 0⟩ k ∨ w1.heap.size ≤ k) : Below w.heap.size w w2 ∧ ∀ k, q.Foot (B + 1) k → w.heap.size ≤ k := by
  subst hB
  exact ⟨hb.trans (hk.below hb.size newBook_foot), fun k hk => (hf k hk).elim (newBook_foot k) (fun h => Nat.le_trans hb.size h)⟩

theorem set_take (l : List Int) (n : Nat) (x : Int) : (l.set 0 x).take n = (l.take n).set 0 x := by
  cases l with
  | nil => simp
  | cons a l => cases n with
    | zero => simp
    | succ n => simp
theorem take_zero (ys : List Int) (n : Nat) (h : n ≤ ys.length) : ringTake ys 0 n = ys.take n := by
  unfold ringTake
  have h1 : min (0 + n) ys.length - 0 = n := by omega
  rw [h1, Nat.sub_self]
  simp
theorem RingAt.cell0 {w : World} {r p : Nat} {o k s m : Int} {MA : Option Addr} {c : Nat} {ys xs : List Int} (h : RingAt w r p o k s m MA c 0 ys xs) {f : Int} (hf : xs[0]? = some f) : ys[0]? = some f := by
  have hs := h.shows
  rw [take_zero _ _ (by rw [h.full]; exact h.fits)] at hs
  rw [← hs, List.getElem?_take] at hf
  split at hf
  · exact hf
  · cases hf
theorem RingAt.poke {w : World} {r p : Nat} {o k s m : Int} {MA : Option Addr} {c : Nat} {ys xs : List Int} (h : RingAt w r p o k s m MA c 0 ys xs) {lb : Nat} (e : MA = some ⟨lb, 0, none⟩) (x : Int) : RingAt (w.setCell ⟨lb, 0, none⟩ (.int .u8 x)) r p o k s m MA c 0 (ys.set 0 x) (xs.set 0 x) where
  head := by
    rw [List.length_set]
    exact blk_far h.head (h.ring_mem e) _
  mem := .inr ⟨lb, e, (h.mem_lt e).put 0 x⟩
  full := by rw [List.length_set]; exact h.full
  small := h.small
  fits := by rw [List.length_set]; exact h.fits
  starts := h.starts
  shows := by
    have hs := h.shows
    rw [take_zero _ _ (by rw [h.full]; exact h.fits)] at hs
    rw [take_zero _ _ (by rw [List.length_set, List.length_set, h.full]; exact h.fits), List.length_set, set_take, hs]
  pol := h.pol
theorem RingAt.far {w : World} {r p : Nat} {o k s m : Int} {MA : Option Addr} {c start : Nat} {ys xs : List Int} (h : RingAt w r p o k s m MA c start ys xs) {lb : Nat} (hr : r ≠ lb) (e : ∀ mb, MA = some ⟨mb, 0, none⟩ → mb ≠ lb) (v : Value) : RingAt (w.setCell ⟨lb, 0, none⟩ v) r p o k s m MA c start ys xs where
  head := blk_far h.head hr _
  mem := h.mem.imp id (fun ⟨mb, e1, hR⟩ => ⟨mb, e1, hR.far ⟨lb, 0, none⟩ (e mb e1) v⟩)
  full := h.full
  small := h.small
  fits := h.fits
  starts := h.starts
  shows := h.shows
  pol := h.pol

/-- What the law's loop keeps: w is where the law began. -/
structure MovesRel (w wr : World) (r p : Nat) (k s m f0 : Int) (lb c0 : Nat) (moved : Bool) (MA : Option Addr) (c : Nat) (ys xs : List Int) (b : BookS) (q : Parts) (ls : List Int) : Prop where
  ring : RingAt wr r p 1 k s m MA c 0 ys xs
  book : BookAt wr p b q
  ok : b.OK
  first : xs[0]? = some f0
  look : Row wr lb ls
  some_ls : 0 < ls.length
  still : moved = false → MA = some ⟨lb, 0, none⟩ ∧ c = c0
  gone : moved = true → ∀ mb, MA = some ⟨mb, 0, none⟩ → mb ≠ lb
  below : Below w.heap.size w wr
  r_young : w.heap.size ≤ r
  lb_young : w.heap.size ≤ lb
  m_young : ∀ mb, MA = some ⟨mb, 0, none⟩ → w.heap.size ≤ mb
  b_young : ∀ j, q.Foot p j → w.heap.size ≤ j

theorem MovesRel.mem {w wr : World} {r p : Nat} {k s m f0 : Int} {lb c0 : Nat} {moved : Bool} {MA : Option Addr} {c : Nat} {ys xs : List Int} {b : BookS} {q : Parts} {ls : List Int} (h : MovesRel w wr r p k s m f0 lb c0 moved MA c ys xs b q ls) : ∃ mb, MA = some ⟨mb, 0, none⟩ := by
  rcases h.ring.mem with ⟨_, _, hy⟩ | ⟨mb, e, _⟩
  · have := h.ring.cell0 h.first
    rw [hy] at this
    cases this
  · exact ⟨mb, e⟩

theorem MovesRel.later {w wr w1 : World} {r p : Nat} {k s m f0 : Int} {lb c0 : Nat} {moved : Bool} {MA : Option Addr} {c : Nat} {ys xs : List Int} {b : BookS} {q : Parts} {ls : List Int} (h : MovesRel w wr r p k s m f0 lb c0 moved MA c ys xs b q ls) (hb : Below wr.heap.size wr w1) : MovesRel w w1 r p k s m f0 lb c0 moved MA c ys xs b q ls :=
  ⟨h.ring.below hb, h.book.frame (fun j hj => hb.block j (h.book.lt hj)), h.ok, h.first, h.look.below hb, h.some_ls, h.still, h.gone, below_then h.below h.below.size hb, h.r_young, h.lb_young, h.m_young, h.b_young⟩

/-- Behind a Write. -/
theorem MovesRel.wrote {w wr w1 : World} {r p : Nat} {k s m f0 : Int} {lb c0 : Nat} {moved : Bool} {MA : Option Addr} {c : Nat} {ys xs os : List Int} {b : BookS} {q : Parts} {ls : List Int} {mv : Bool} {err : Int} {MA' : Option Addr} {c' start' : Nat} {ys' : List Int} {b' : BookS} {q' : Parts} (h : MovesRel w wr r p k s m f0 lb c0 moved MA c ys xs b q ls) (hw : Written wr w1 r p 1 k s m MA c 0 ys xs os b q mv err MA' c' start' ys' b' q') : start' = 0 ∧ (mv = false → c' = c) ∧ (mv = true → c < c') ∧ ∃ ls', MovesRel w w1 r p k s m f0 lb c0 (moved || mv) MA' c' ys' (if err = 0 then xs ++ os else xs) b' q' ls' := by
  have hs0 : start' = 0 := by
    cases mv with
    | false => exact (hw.same rfl).2.2.1
    | true => exact (hw.moved rfl).1
  have hsz := h.below.size
  have hlr : lb ≠ r := fun e => ring_row h.ring.head h.look e.symm
  have hlook : ∃ ls', Row w1 lb ls' ∧ 0 < ls'.length := by
    by_cases e : MA = some ⟨lb, 0, none⟩
    · obtain ⟨zs, h1, h2⟩ := hw.old lb e
      refine ⟨zs, h1, ?_⟩
      have := h.ring.cell0 h.first
      have hl : 0 < ys.length := by
        cases hy : ys with
        | nil => rw [hy] at this; cases this
        | cons _ _ => simp
      have := h.ring.full
      omega
    · refine ⟨ls, h.look.upd hw.upd (fun hx => ?_), h.some_ls⟩
      rcases hx with hx | hx | hx
      · exact hlr hx
      · exact e hx
      · exact row_foot h.book h.look hx
  obtain ⟨ls', l1, l2⟩ := hlook
  refine ⟨hs0, fun e => (hw.same e).2.1, fun e => (hw.moved e).2.1, ls', ?_⟩
  subst hs0
  refine ⟨hw.ring, hw.book, hw.ok, ?_, l1, l2, ?_, ?_, h.below.trans (hw.upd.below hsz (fun j hj => ?_)), h.r_young, h.lb_young, ?_, fun j hj => (hw.foot j hj).elim (h.b_young j) (fun h => by omega)⟩
  · have hl : 0 < xs.length := by
      have := h.first
      cases hx : xs with
      | nil => rw [hx] at this; cases this
      | cons _ _ => simp
    split
    · rw [List.getElem?_append_left hl]; exact h.first
    · exact h.first
  · intro e
    rw [Bool.or_eq_false_iff] at e
    obtain ⟨a1, a2⟩ := h.still e.1
    obtain ⟨b1, b2, _⟩ := hw.same e.2
    exact ⟨b1.trans a1, b2.trans a2⟩
  · intro e mb hmb
    cases mv with
    | false =>
      rw [Bool.or_false] at e
      exact h.gone e mb ((hw.same rfl).1.symm.trans hmb)
    | true =>
      obtain ⟨g, e1, h1⟩ := (hw.moved rfl).2.2.1
      rw [e1] at hmb
      injection hmb with hmb
      injection hmb with hmb
      have := h.look.lt
      omega
  · rcases hj with h1 | h1 | h1
    · rw [h1]; exact h.r_young
    · exact h.m_young j h1
    · exact h.b_young j h1
  · intro mb hmb
    cases mv with
    | false => exact h.m_young mb ((hw.same rfl).1.symm.trans hmb)
    | true =>
      obtain ⟨g, e1, h1⟩ := (hw.moved rfl).2.2.1
      rw [e1] at hmb
      injection hmb with hmb
      injection hmb with hmb
      omega

/-- Behind a store into the look. -/
theorem MovesRel.poked {w wr : World} {r p : Nat} {k s m f0 : Int} {lb c0 : Nat} {moved : Bool} {MA : Option Addr} {c : Nat} {ys xs : List Int} {b : BookS} {q : Parts} {ls : List Int} (h : MovesRel w wr r p k s m f0 lb c0 moved MA c ys xs b q ls) (x : Int) :
    (∃ ys2 xs2, RingAt (wr.setCell ⟨lb, 0, none⟩ (.int .u8 x)) r p 1 k s m MA c 0 ys2 xs2 ∧ xs2[0]? = some (if moved then f0 else x)) ∧ Row (wr.setCell ⟨lb, 0, none⟩ (.int .u8 x)) lb (ls.set 0 x) ∧ BookAt (wr.setCell ⟨lb, 0, none⟩ (.int .u8 x)) p b q ∧ Upd (fun j => j = lb) wr (wr.setCell ⟨lb, 0, none⟩ (.int .u8 x)) := by
  have hu : Upd (fun j => j = lb) wr (wr.setCell ⟨lb, 0, none⟩ (.int .u8 x)) := (Upd.refl (fun j => j = lb) wr).setCell ⟨lb, 0, none⟩ (.inl rfl) _
  refine ⟨?_, h.look.put 0 x, h.book.frame (fun j hj => hu.block j (h.book.lt hj) (fun e => row_foot h.book h.look (e ▸ hj))), hu⟩
  cases moved with
  | false =>
    refine ⟨_, _, h.ring.poke (h.still rfl).1 x, ?_⟩
    have hf := h.first
    cases xs with
    | nil => cases hf
    | cons a l => simp
  | true => exact ⟨_, _, h.ring.far (ring_row h.ring.head h.look) (h.gone rfl) _, by simpa using h.first⟩

/-- Behind the Set. -/
theorem MovesRel.next {w wr w3 : World} {r p : Nat} {k s m f0 x : Int} {lb c0 mb : Nat} {moved : Bool} {MA : Option Addr} {c : Nat} {ys xs ys3 xs3 : List Int} {b : BookS} {q : Parts} {ls : List Int} (h : MovesRel w wr r p k s m f0 lb c0 moved MA c ys xs b q ls) (hmb : MA = some ⟨mb, 0, none⟩) (hu : Upd (fun j => j = mb) (wr.setCell ⟨lb, 0, none⟩ (.int .u8 x)) w3) (hR : RingAt w3 r p 1 k s m MA c 0 ys3 xs3) (hf : xs3[0]? = some f0) :
    ∃ ls3, MovesRel w w3 r p k s m f0 lb c0 moved MA c ys3 xs3 b q ls3 ∧ ls3[0]? = some (if moved then x else f0) := by
  obtain ⟨_, h1, h2, h3⟩ := h.poked x
  have hrow : ∃ ls3, Row w3 lb ls3 ∧ ls3[0]? = some (if moved then x else f0) := by
    cases moved with
    | false => exact ⟨ys3, hR.mem_lt (h.still rfl).1, by simpa using hR.cell0 hf⟩
    | true =>
      refine ⟨ls.set 0 x, h1.upd hu (fun e => h.gone rfl mb hmb e.symm), ?_⟩
      have := h.some_ls
      cases ls with
      | nil => simp at this
      | cons a l => simp
  obtain ⟨ls3, l1, l2⟩ := hrow
  refine ⟨ls3, ⟨hR, ?_, h.ok, hf, l1, ?_, h.still, h.gone, ?_, h.r_young, h.lb_young, h.m_young, h.b_young⟩, l2⟩
  · exact h2.frame (fun j hj => hu.block j (h2.lt hj) (fun e => row_foot h.book (h.ring.mem_lt hmb) (e ▸ hj)))
  · cases ls3 with
    | nil => cases l2
    | cons a l => simp
  · have hs := h.below.size
    exact h.below.trans ((h3.below hs (fun j hj => hj ▸ h.lb_young)).trans (hu.below (Nat.le_trans hs h3.size) (fun j hj => hj ▸ h.m_young mb hmb)))
end Go.Proofs.Ythhnmanhehbbhaa.Ring
