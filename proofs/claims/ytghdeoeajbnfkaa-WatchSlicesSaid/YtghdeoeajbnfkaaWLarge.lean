/- WatchLarge: the walk. -/
import Derived.Test.YtghdeoeajbnfkaaWLargeP
namespace Go.Proofs.Ytghdeoeajbnfkaa.WSl
open Go.RowKit Go.Proofs.YtghdeoeajbnfkaaW.PrintWords Go.Proofs.YtghdeoeajbnfkaaW.PrintLast Go.Proofs.YtghdeoeajbnfkaaW.PrintMore Go.Proofs.Ytghdeoeajbnfkaa.WMem
attribute [local go_sem] max2_int min2_int max_two min_two
set_option linter.unusedSimpArgs false
set_option linter.unusedVariables false

/-- What the walk keeps. -/
structure LMid (w wr : World) (a b : Sl) : Prop where
  below : Below w.heap.size w wr
  a : Lies wr a
  b : Lies wr b
theorem LMid.after {w wr w2 : World} {a b : Sl} (h : LMid w wr a b) (hb : Below wr.heap.size wr w2) : LMid w w2 a b :=
  ⟨h.below.trans (hb.mono h.below.size), Lies.below h.a hb, Lies.below h.b hb⟩

/-- A slice of octets in a block that holds them. -/
theorem lies_of {w : World} {g n : Nat} {cs : Array Value} {t : TypeId} (hb : w.heap[g]? = some (.cells cs t)) (hcs : ∀ j, j < n → ∃ x : Int, cs[j]? = some (.int .u8 x)) (hn : n ≤ 1000000) : Lies w ⟨g, 0, n, n, false⟩ :=
  ⟨by simp, Nat.le_refl _, hn, fun j hj => by
    obtain ⟨x, hx⟩ := hcs j hj
    refine ⟨x, ?_, ?_⟩
    · rw [blk_cell hb, Nat.zero_add, hx]
    · exact blk_frozen hb _⟩

theorem makeU8 (n : Nat) (hr : n ≤ 1000000) : ∃ cs : Array Value, cs.size = n ∧ (∀ j, j < n → cs[j]? = some (.int .u8 0)) ∧ ∀ u : World, (Instr.makeSlice 22 (.int .i64 n) (.int .i64 n)).run Try.prog u = .ok (.slice (some ⟨u.heap.size, 0, none⟩) n n) (u.alloc (.cells cs 5)) := by
  obtain ⟨i0, hi, hz0, hz1, hz2⟩ := info_parts infoU8
  refine ⟨madeCells (Value.int .u8 0).cells n, by simp [madeCells, Value.cells], fun j hj => ?_, fun u => ?_⟩
  · simp [madeCells, Value.cells, hj, Nat.mod_one]
  · have h := run_make (P := Try.prog) u 22 5 i0 (.int .u8 0) Try.underlying22 hi hz0 .i64 .i64 (n : Int) (n : Int) (by omega) (by omega) (by rw [hz2]; omega) (by omega)
    rw [h, Int.toNat_natCast, hz1, Nat.mul_one]

theorem infoSl : (Try.prog.info? 22).map (fun i => (i.zero, i.size, i.bytes)) = some (some (.slice none 0 0), 1, 24) := by kernel_rfl
theorem makeSls (n : Nat) (hr : n ≤ 1000000) : ∃ cs : Array Value, cs.size = n ∧ (∀ j, j < n → cs[j]? = some (.slice none 0 0)) ∧ ∀ u : World, (Instr.makeSlice 31 (.int .i64 n) (.int .i64 n)).run Try.prog u = .ok (.slice (some ⟨u.heap.size, 0, none⟩) n n) (u.alloc (.cells cs 22)) := by
  obtain ⟨i0, hi, hz0, hz1, hz2⟩ := info_parts infoSl
  refine ⟨madeCells (Value.slice none 0 0).cells n, by simp [madeCells, Value.cells], fun j hj => ?_, fun u => ?_⟩
  · simp [madeCells, Value.cells, hj, Nat.mod_one]
  · have h := run_make (P := Try.prog) u 31 22 i0 (.slice none 0 0) Try.underlying31 hi hz0 .i64 .i64 (n : Int) (n : Int) (by omega) (by omega) (by rw [hz2]; omega) (by omega)
    rw [h, Int.toNat_natCast, hz1, Nat.mul_one]

/-- Nil slices, of which the last one becomes a. -/
theorem row_made (u : World) (cs : Array Value) (k : Nat) (a : Sl) (hcs : cs.size = k + 1) (hz : ∀ j, j < k + 1 → cs[j]? = some (.slice none 0 0)) :
    RowAt ((u.alloc (.cells cs 22)).setCell ⟨u.heap.size, k, none⟩ a.val) (some ⟨u.heap.size, 0, none⟩) u.heap.size 0 (nils a (k + 1)) := by
  have hb := blk_new u (.cells cs 22)
  refine ⟨fun _ => rfl, fun i s hi => ?_⟩
  have hlt : i < k + 1 := by
    have := (List.getElem?_eq_some_iff.1 hi).choose
    simpa [nils] using this
  have h0 : (u.alloc (.cells cs 22)).cell? ⟨u.heap.size, i, none⟩ = some (.slice none 0 0) := by rw [blk_cell hb, hz i hlt]
  rw [Nat.zero_add]
  by_cases he : i = k
  · subst he
    rw [World.cell?_setCell_same _ _ _ h0]
    simp [nils] at hi
    rw [hi]
  · rw [World.cell?_setCell_other (h := at_ne (fun e => he e.2.symm)), h0]
    have h3 : i < k := by omega
    simp [nils, List.getElem?_append, h3] at hi
    rw [← hi]
    rfl
theorem Lies_sl0 (w : World) : Lies w sl0 := ⟨fun _ => ⟨rfl, rfl⟩, Nat.le_refl _, by simp [sl0], fun j hj => by simp [sl0] at hj⟩
theorem nils_lies {w : World} {a : Sl} (k : Nat) (h : Lies w a) : ∀ s ∈ nils a k, Lies w s := fun s hs => by
  rcases nils_mem a k s hs with rfl | rfl
  · exact Lies_sl0 w
  · exact h
theorem nils_sf {a : Sl} {k g : Nat} (h : a.b < g) (i : Nat) : ¬ SF (nils a k) g i := fun ⟨s, hs, hh⟩ => by
  rcases nils_mem a k s hs with rfl | rfl
  · have := hh.2.2
    have h2 := hh.2.1
    simp [sl0] at this h2
  · have := hh.1
    omega
theorem set_made (u : World) (cs : Array Value) (k : Nat) (v : Value) (t : TypeId) : (u.alloc (.cells cs t)).setCell ⟨u.heap.size, k, none⟩ v = u.alloc (.cells (cs.setIfInBounds k v) t) := by
  simp only [World.setCell, World.alloc]
  congr 1
  apply Array.ext_getElem?
  intro i
  rw [Array.getElem?_modify, Array.getElem?_push, Array.getElem?_push]
  split
  · next h => subst h; simp
  · next h =>
    have h2 : ¬ i = u.heap.size := fun e => h e.symm
    rw [if_neg h2, if_neg h2]
theorem row_none (u : World) (A : Option Addr) (g : Nat) (a : Sl) : RowAt u A g 0 (nils a 0) := ⟨fun h => by simp [nils] at h, fun i s hi => by simp [nils] at hi⟩

set_option maxHeartbeats 8000000 in
set_option maxRecDepth 100000 in
theorem watchLarge (x y : Int) (w : World) (_ : (Lit.int .i64 x).wf = true) (_ : (Lit.int .i64 y).wf = true) : Calls Try.prog 3 #[.int .i64 x, .int .i64 y] w fun e w' => e = .returned (.bool true) ∧ Below w.heap.size w w' := by
  obtain ⟨n, hn⟩ : ∃ n : Nat, (n : Int) = mn (mx x 0) 3000 := ⟨(mn (mx x 0) 3000).toNat, by unfold mn mx; repeat' split <;> omega⟩
  obtain ⟨k, hk⟩ : ∃ k : Nat, (k : Int) = mn (mx y 0) 200 := ⟨(mn (mx y 0) 200).toNat, by unfold mn mx; repeat' split <;> omega⟩
  have hn2 : n ≤ 3000 := by unfold mn at hn; split at hn <;> omega
  have hk2 : k ≤ 200 := by unfold mn at hk; split at hk <;> omega
  have m1 : (if x < 0 then (0 : Int) else x) = mx x 0 := rfl
  have m2 : (if (3000 : Int) < mx x 0 then (3000 : Int) else mx x 0) = n := hn.symm
  have m3 : (if y < 0 then (0 : Int) else y) = mx y 0 := rfl
  have m4 : (if (200 : Int) < mx y 0 then (200 : Int) else mx y 0) = k := hk.symm
  clear hn hk
  obtain ⟨cs, hcs, hcz, hmk⟩ := makeU8 n (by omega)
  obtain ⟨ds, hds, hdz, hmd⟩ := makeSls k (by omega)
  have HM : Aside0 (LMid w ((w.alloc (.cells cs 5)).alloc (.cells #[.int .u8 1] 5)) ⟨w.heap.size, 0, n, n, false⟩ ⟨w.heap.size + 1, 0, 1, 1, false⟩) := by
    refine ⟨below_alloc (below_alloc (Below.refl _ _) _) _, lies_of (blk_alloc (blk_new _ _) _) (fun j hj => ⟨0, hcz j hj⟩) (by omega), lies_of (heap_alloc2_new w (.cells cs 5) (.cells #[.int .u8 1] 5)) (fun j hj => ⟨1, by
      obtain rfl : j = 0 := by omega
      rfl⟩) (by omega)⟩
  have HDS := Lib.hid hds
  have HDZ := Aside0.mk hdz
  obtain ⟨one, hone⟩ : ∃ one : Int, one = if 2000 < n then 4 else 0 := ⟨_, rfl⟩
  obtain ⟨all, hall⟩ : ∃ all : Int, all = if 100 < k ∨ 0 < k ∧ 2000 < n then 4 else 0 := ⟨_, rfl⟩
  have HONE := Lib.hid hone
  have HALL := Lib.hid hall
  clear hcs hcz hds hdz hone hall
  obtain ⟨a, ha⟩ : ∃ a : Sl, a = ⟨w.heap.size, 0, n, n, false⟩ := ⟨_, rfl⟩
  obtain ⟨b, hb⟩ : ∃ b : Sl, b = ⟨w.heap.size + 1, 0, 1, 1, false⟩ := ⟨_, rfl⟩
  rw [← ha, ← hb] at HM
  have HVA := Lib.hid (show Value.slice (some ⟨w.heap.size, 0, none⟩) n n = a.val by rw [ha]; rfl)
  have HVB := Lib.hid (show Value.slice (some ⟨w.heap.size + 1, 0, none⟩) 1 1 = b.val by rw [hb]; rfl)
  have HAN := Lib.hid (show a.n = n ∧ a.c = n ∧ a.b = w.heap.size by rw [ha]; exact ⟨rfl, rfl, rfl⟩)
  have HBN := Lib.hid (show b.n = 1 ∧ b.b = w.heap.size + 1 by rw [hb]; exact ⟨rfl, rfl⟩)
  clear ha hb
  go_enter Try.func3, Try.ntmps3
  go_wp2_with fail
  rw [HVA.out, HVB.out]
  generalize (w.alloc (.cells cs 5)).alloc (.cells #[.int .u8 1] 5) = u1 at HM
  clear m1 m2 m3 m4
  generalize mx x 0 = x0
  generalize mx y 0 = y0
  have h1 := overlapAll b a u1 HM.out.b HM.out.a
  rw [chk_two'' a b HBN.out.1, HAN.out.1, ← HONE.out] at h1
  refine h1.mono ?_
  rintro e u2 ⟨⟨r1, r2, r3, rfl, -⟩, hB⟩
  have HM2 := Aside0.mk (HM.out.after hB)
  clear hB h1 HM
  go_wp2_with fail
  have h1 := sameAll a b u2 HM2.out.a HM2.out.b
  rw [chk_two' a b HBN.out.1, HAN.out.1, ← HONE.out] at h1
  refine h1.mono ?_
  rintro e u3 ⟨⟨r4, rfl, -⟩, hB⟩
  have HM3 := Aside0.mk (HM2.out.after hB)
  clear hB h1 HM2
  go_wp2_with fail
  have h1 := diff a b u3 HM3.out.a HM3.out.b
  rw [chk_two' a b HBN.out.1, HAN.out.1, ← HONE.out] at h1
  refine h1.mono ?_
  rintro e u4 ⟨r5, r6, rfl, hB, -⟩
  have HM4 := Aside0.mk (HM3.out.after hB.below)
  clear hB h1 HM3
  have hgb : w.heap.size + 1 < u4.heap.size := by
    have := HM4.out.b.lt (by rw [HBN.out.1]; omega)
    rwa [HBN.out.2] at this
  have HCK := Lib.hid (show chk (nils a k) = all by rw [chk_nils, HAN.out.1, ← HALL.out])
  have HSF := Aside0.mk (fun i => nils_sf (a := a) (k := k) (g := u4.heap.size) (by rw [HAN.out.2.2]; omega) i)
  have HFE := Aside0.mk (show ∀ s ∈ nils a k, s.n ≤ s.c ∧ s.c ≤ 1000000 from fun s hs => by
    rcases nils_mem a k s hs with rfl | rfl
    · simp [sl0]
    · rw [HAN.out.1, HAN.out.2.1]; omega)
  have hrow : ∃ u5 : World, RowAt u5 (some ⟨u4.heap.size, 0, none⟩) u4.heap.size 0 (nils a k) ∧ Below u4.heap.size u4 u5 ∧ (k = 0 → u5 = u4.alloc (.cells ds 22)) ∧ (∀ j, k = j + 1 → u5 = u4.alloc (.cells (ds.setIfInBounds j a.val) 22)) ∧ u4.heap.size < u5.heap.size := by
    cases k with
    | zero => exact ⟨_, row_none _ _ _ _, below_alloc (Below.refl _ _) _, fun _ => rfl, fun j hj => by omega, by simp⟩
    | succ k => exact ⟨_, row_made u4 ds k a HDS.out HDZ.out, (below_alloc (Below.refl _ _) _).setCell (p := ⟨u4.heap.size, k, none⟩) (Nat.le_refl _) _, fun h => by omega, fun j hj => by rw [show j = k by omega]; exact set_made _ _ _ _ _, by simp [World.setCell]⟩
  obtain ⟨u5, hr5, hb5, h50, h51, hsz5⟩ := hrow
  have HR5 := Aside0.mk hr5
  have HM5 := Aside0.mk (HM4.out.after hb5)
  have HG5 := Aside0.mk (show u4.heap.size < u5.heap.size from hsz5)
  have H50 := Aside0.mk h50
  have H51 := Aside0.mk h51
  clear hr5 hb5 h50 h51 hsz5 HM4
  have hblk := blk_new u4 (.cells ds 22)
  by_cases hk0 : 0 < k
  · obtain ⟨j, hkj⟩ : ∃ j, k = j + 1 := ⟨k - 1, by omega⟩
    have hj : ((k : Int) - 1) = (j : Int) := by omega
    have hjk : j < k := by omega
    have hc0 : (u4.alloc (.cells ds 22)).cell? ⟨u4.heap.size, j, none⟩ = some (.slice none 0 0) := by rw [blk_cell hblk, HDZ.out j (by omega)]
    have hf0 : (u4.alloc (.cells ds 22)).frozen? ⟨u4.heap.size, j, none⟩ = false := blk_frozen hblk j
    have hu5 := H51.out j hkj
    have HKJ := Lib.hid hkj
    have hva : a.val = .slice a.A a.n a.c := rfl
    rw [hva] at hu5 ⊢
    clear hblk hkj H50 H51 HDS HDZ
    go_wp2_with fail
    rw [← hu5]
    have hlen : (nils a k).length ≤ 1000000 := by rw [nils_len]; omega
    have HL := Lib.hid hlen
    clear hu5 hlen hmk hmd
    have h1 := meetsAll (some ⟨u4.heap.size, 0, none⟩) u4.heap.size 0 k (nils a k) u5 HR5.out (nils_lies k HM5.out.a) HL.out
    rw [nils_len, HCK.out] at h1
    refine h1.mono ?_
    rintro e u6 ⟨v1, o1, rfl, hB, -, -⟩
    have HM6 := Aside0.mk (HM5.out.after hB.below)
    have HR6 := Aside0.mk (HR5.out.below hB.below)
    have HG6 := Aside0.mk (Nat.lt_of_lt_of_le HG5.out hB.below.size)
    clear hB h1 HM5 HR5 HG5
    go_wp2_with fail
    have h1 := groups0 (some ⟨u4.heap.size, 0, none⟩) u4.heap.size 0 k (nils a k) u6 HR6.out (nils_lies k HM6.out.a) HL.out (by rw [nils_len]; exact mall_nil a k k (Nat.le_refl _))
    rw [nils_len, HCK.out] at h1
    refine h1.mono ?_
    rintro e u7 ⟨v2, rfl, hB⟩
    have HM7 := Aside0.mk (HM6.out.after hB)
    have HR7 := Aside0.mk (HR6.out.below hB)
    have HG7 := Aside0.mk (Nat.lt_of_lt_of_le HG6.out hB.size)
    clear hB h1 HM6 HR6 HG6
    go_wp2_with fail
    have h1 := cover (some ⟨u4.heap.size, 0, none⟩) u4.heap.size 0 k (nils a k) u7 HR7.out HG7.out HSF.out (nils_lies k HM7.out.a) HL.out
    rw [nils_len, HCK.out] at h1
    refine h1.mono ?_
    rintro e u8 ⟨v3, rfl, hB, -⟩
    have HM8 := Aside0.mk (HM7.out.after hB)
    have HR8 := Aside0.mk (HR7.out.below hB)
    clear hB h1 HM7 HR7 HG7
    go_wp2_with fail
    have h1 := fenced (some ⟨u4.heap.size, 0, none⟩) u4.heap.size 0 k (nils a k) u8 HR8.out HFE.out HL.out
    rw [nils_len, HCK.out] at h1
    refine h1.mono ?_
    rintro e u9 ⟨v4, o4, rfl, hB, -⟩
    have HB9 := Aside0.mk (HM8.out.after hB.below).below
    clear hB h1 HM8 HR8 HL HSF HFE HCK
    have ho : (2000 < n ∧ one = 4) ∨ (n ≤ 2000 ∧ one = 0) := by
      have := HONE.out
      split at this <;> omega
    have ha : (100 < k ∧ all = 4) ∨ (k ≤ 100 ∧ 0 < k ∧ 2000 < n ∧ all = 4) ∨ (k ≤ 100 ∧ k ≤ 0 ∧ all = 0) ∨ (k ≤ 100 ∧ n ≤ 2000 ∧ all = 0) := by
      have := HALL.out
      split at this <;> omega
    clear HONE HALL
    rcases ho with ⟨ho, rfl⟩ | ⟨ho, rfl⟩
    · have hd1 : decide ((2000 : Int) < (n : Int)) = true := decide_eq_true (by omega)
      rcases ha with ⟨h2, rfl⟩ | ⟨h2, h3, -, rfl⟩ | ⟨h2, h3, rfl⟩ | ⟨h2, h3, rfl⟩
      · have hd2 : decide ((100 : Int) < (k : Int)) = true := decide_eq_true (by omega)
        go_wp2
        go_ret
        exact ⟨rfl, HB9.out⟩
      · have hd2 : decide ((100 : Int) < (k : Int)) = false := decide_eq_false (by omega)
        have hd3 : decide ((0 : Int) < (k : Int)) = true := decide_eq_true (by omega)
        go_wp2
        go_ret
        exact ⟨rfl, HB9.out⟩
      · exfalso; omega
      · exfalso; omega
    · have hd1 : decide ((2000 : Int) < (n : Int)) = false := decide_eq_false (by omega)
      rcases ha with ⟨h2, rfl⟩ | ⟨h2, h3, h4, rfl⟩ | ⟨h2, h3, rfl⟩ | ⟨h2, h3, rfl⟩
      · have hd2 : decide ((100 : Int) < (k : Int)) = true := decide_eq_true (by omega)
        go_wp2
        go_ret
        exact ⟨rfl, HB9.out⟩
      · exfalso; omega
      · exfalso; omega
      · have hd2 : decide ((100 : Int) < (k : Int)) = false := decide_eq_false (by omega)
        by_cases h5 : 0 < k
        · have hd3 : decide ((0 : Int) < (k : Int)) = true := decide_eq_true (by omega)
          go_wp2
          go_ret
          exact ⟨rfl, HB9.out⟩
        · have hd3 : decide ((0 : Int) < (k : Int)) = false := decide_eq_false (by omega)
          go_wp2
          go_ret
          exact ⟨rfl, HB9.out⟩
  · have hd : k = 0 := by omega
    have hu5 := H50.out hd
    have hdz : decide ((0 : Int) < (k : Int)) = false := decide_eq_false (by omega)
    clear H50 H51 HDS HDZ hblk hd
    go_wp2_with fail
    rw [← hu5]
    have hlen : (nils a k).length ≤ 1000000 := by rw [nils_len]; omega
    have HL := Lib.hid hlen
    clear hu5 hlen hmk hmd
    have h1 := meetsAll (some ⟨u4.heap.size, 0, none⟩) u4.heap.size 0 k (nils a k) u5 HR5.out (nils_lies k HM5.out.a) HL.out
    rw [nils_len, HCK.out] at h1
    refine h1.mono ?_
    rintro e u6 ⟨v1, o1, rfl, hB, -, -⟩
    have HM6 := Aside0.mk (HM5.out.after hB.below)
    have HR6 := Aside0.mk (HR5.out.below hB.below)
    have HG6 := Aside0.mk (Nat.lt_of_lt_of_le HG5.out hB.below.size)
    clear hB h1 HM5 HR5 HG5
    go_wp2_with fail
    have h1 := groups0 (some ⟨u4.heap.size, 0, none⟩) u4.heap.size 0 k (nils a k) u6 HR6.out (nils_lies k HM6.out.a) HL.out (by rw [nils_len]; exact mall_nil a k k (Nat.le_refl _))
    rw [nils_len, HCK.out] at h1
    refine h1.mono ?_
    rintro e u7 ⟨v2, rfl, hB⟩
    have HM7 := Aside0.mk (HM6.out.after hB)
    have HR7 := Aside0.mk (HR6.out.below hB)
    have HG7 := Aside0.mk (Nat.lt_of_lt_of_le HG6.out hB.size)
    clear hB h1 HM6 HR6 HG6
    go_wp2_with fail
    have h1 := cover (some ⟨u4.heap.size, 0, none⟩) u4.heap.size 0 k (nils a k) u7 HR7.out HG7.out HSF.out (nils_lies k HM7.out.a) HL.out
    rw [nils_len, HCK.out] at h1
    refine h1.mono ?_
    rintro e u8 ⟨v3, rfl, hB, -⟩
    have HM8 := Aside0.mk (HM7.out.after hB)
    have HR8 := Aside0.mk (HR7.out.below hB)
    clear hB h1 HM7 HR7 HG7
    go_wp2_with fail
    have h1 := fenced (some ⟨u4.heap.size, 0, none⟩) u4.heap.size 0 k (nils a k) u8 HR8.out HFE.out HL.out
    rw [nils_len, HCK.out] at h1
    refine h1.mono ?_
    rintro e u9 ⟨v4, o4, rfl, hB, -⟩
    have HB9 := Aside0.mk (HM8.out.after hB.below).below
    clear hB h1 HM8 HR8 HL HSF HFE HCK
    have ho : (2000 < n ∧ one = 4) ∨ (n ≤ 2000 ∧ one = 0) := by
      have := HONE.out
      split at this <;> omega
    have ha : (100 < k ∧ all = 4) ∨ (k ≤ 100 ∧ 0 < k ∧ 2000 < n ∧ all = 4) ∨ (k ≤ 100 ∧ k ≤ 0 ∧ all = 0) ∨ (k ≤ 100 ∧ n ≤ 2000 ∧ all = 0) := by
      have := HALL.out
      split at this <;> omega
    clear HONE HALL
    rcases ho with ⟨ho, rfl⟩ | ⟨ho, rfl⟩
    · have hd1 : decide ((2000 : Int) < (n : Int)) = true := decide_eq_true (by omega)
      rcases ha with ⟨h2, rfl⟩ | ⟨h2, h3, -, rfl⟩ | ⟨h2, h3, rfl⟩ | ⟨h2, h3, rfl⟩
      · exfalso; omega
      · exfalso; omega
      · have hd2 : decide ((100 : Int) < (k : Int)) = false := decide_eq_false (by omega)
        have hd3 : decide ((0 : Int) < (k : Int)) = false := decide_eq_false (by omega)
        go_wp2
        go_ret
        exact ⟨rfl, HB9.out⟩
      · exfalso; omega
    · have hd1 : decide ((2000 : Int) < (n : Int)) = false := decide_eq_false (by omega)
      rcases ha with ⟨h2, rfl⟩ | ⟨h2, h3, h4, rfl⟩ | ⟨h2, h3, rfl⟩ | ⟨h2, h3, rfl⟩
      · exfalso; omega
      · exfalso; omega
      · have hd2 : decide ((100 : Int) < (k : Int)) = false := decide_eq_false (by omega)
        have hd3 : decide ((0 : Int) < (k : Int)) = false := decide_eq_false (by omega)
        go_wp2
        go_ret
        exact ⟨rfl, HB9.out⟩
      · have hd2 : decide ((100 : Int) < (k : Int)) = false := decide_eq_false (by omega)
        by_cases h5 : 0 < k
        · have hd3 : decide ((0 : Int) < (k : Int)) = true := decide_eq_true (by omega)
          go_wp2
          go_ret
          exact ⟨rfl, HB9.out⟩
        · have hd3 : decide ((0 : Int) < (k : Int)) = false := decide_eq_false (by omega)
          go_wp2
          go_ret
          exact ⟨rfl, HB9.out⟩

end Go.Proofs.Ytghdeoeajbnfkaa.WSl
