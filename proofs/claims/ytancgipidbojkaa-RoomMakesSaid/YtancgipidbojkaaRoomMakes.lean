/- RoomMakes: the law's walk. -/
import Derived.Test.YtancgipidbojkaaAdd
import Derived.Test.YtancgipidbojkaaTwice
namespace Go.Proofs.Ytancgipidbojkaa.Twin
open Go.RowKit Go.Proofs.YtancgipidbojkaaW.PrintWords Go.Proofs.YtancgipidbojkaaW.PrintLast Go.Proofs.YtancgipidbojkaaW.PrintMore Go.Proofs.Ytancgipidbojkaa.Book
set_option linter.unusedSimpArgs false

theorem Twins.sub {w : World} {base : Nat} {L L' : List Pair} (h : Twins w base L) (hs : ∀ P ∈ L', P ∈ L) : Twins w base L' :=
  ⟨fun p hp => h.fits p (hs p hp), fun p hp => h.shows p (hs p hp), fun p hp q hq => h.apart p (hs p hp) q (hs q hq), fun p hp q hq => h.alike p (hs p hp) q (hs q hq)⟩

/-- A new pair: both rows are younger than w, and apart. -/
def NewPair (w w' : World) (P : Pair) : Prop := P.n ≤ P.cap ∧ (0 < P.cap → ∃ g g' ys, P.A = some ⟨g, 0, none⟩ ∧ P.B = some ⟨g', 0, none⟩ ∧ w.heap.size ≤ g ∧ w.heap.size ≤ g' ∧ g ≠ g' ∧ Row w' g ys ∧ Row w' g' ys ∧ ys.length = P.cap ∧ P.cap ≤ maxLen)

theorem Row.oct {w : World} {base g : Nat} {ys : List Int} (h : Row w g ys) (hb : base ≤ g) (hm : ys.length ≤ maxLen) : Oct w base (some ⟨g, 0, none⟩) ys.length ys :=
  ⟨⟨rfl, hm, fun _ => ⟨_, rfl, fun j hj => by rw [add_zero']; exact h.cell j hj⟩⟩, fun _ => ⟨g, 0, _, rfl, hb, h⟩⟩
theorem Row.reads {w : World} {g : Nat} {xs zs : List Int} (h : Row w g (xs ++ zs)) (hm : xs.length ≤ maxLen) : ReadsInt w .u8 (some ⟨g, 0, none⟩) xs.length xs :=
  ⟨rfl, hm, fun _ => ⟨_, rfl, fun j hj => by
    rw [add_zero', h.cell j (by simp; omega)]
    simp [List.getD_eq_getElem?_getD, List.getElem?_append_left hj]⟩⟩
theorem Octets.row {w w' : World} {g : Nat} {ys : List Int} (h : Octets w w') (hr : Row w g ys) : Row w' g ys := (h g _ hr).trans hr
theorem pos_some {g j : Nat} : pos (some ⟨g, 0, none⟩) j = some ⟨g, j, none⟩ := by rw [pos, Option.map_some, add_zero']
theorem Oct.at_block {w : World} {base : Nat} {A : Option Addr} {cap : Nat} {xs : List Int} (h : Oct w base A cap xs) (j : Nat) (hj : j < cap) : ∃ q, pos A j = some q ∧ q.block < w.heap.size := by
  obtain ⟨q, g, o, cs, e, _, q1, _, hb, _⟩ := h.some_cell j hj
  refine ⟨q, e, ?_⟩
  have := blk_lt hb
  have e2 : q.block = g := by rw [q1]; cases j <;> simp [Addr.add]
  omega

theorem Twins.more {w w' : World} {base : Nat} {L : List Pair} {P : Pair} (h : Twins w base L) (hb : Below w.heap.size w w') (hbase : base ≤ w.heap.size) (hP : NewPair w w' P) : Twins w' base (L ++ [P]) := by
  have h' := h.below hb
  have old : ∀ q ∈ L, ∀ j, j < q.cap → (∃ a, pos q.A j = some a ∧ a.block < w.heap.size) ∧ (∃ a, pos q.B j = some a ∧ a.block < w.heap.size) := fun q hq j hj => by
    obtain ⟨xs, h1, h2⟩ := h.shows q hq
    exact ⟨h1.at_block j hj, h2.at_block j hj⟩
  have new : ∀ j, j < P.cap → ∃ g g', g ≠ g' ∧ w.heap.size ≤ g ∧ w.heap.size ≤ g' ∧ ∀ k, pos P.A k = some ⟨g, k, none⟩ ∧ pos P.B k = some ⟨g', k, none⟩ := fun j hj => by
    obtain ⟨g, g', ys, e1, e2, l1, l2, hne, _⟩ := hP.2 (by omega)
    exact ⟨g, g', hne, l1, l2, fun k => ⟨by rw [e1, pos_some], by rw [e2, pos_some]⟩⟩
  refine ⟨fun p hp => ?_, fun p hp => ?_, fun p hp q hq j k hj hk => ?_, fun p hp q hq j k hj hk => ?_⟩
  · rcases List.mem_append.1 hp with hp1 | hp1
    · exact h.fits p hp1
    · obtain rfl := List.mem_singleton.1 hp1
      exact hP.1
  · rcases List.mem_append.1 hp with hp1 | hp1
    · exact h'.shows p hp1
    · obtain rfl := List.mem_singleton.1 hp1
      by_cases h0 : 0 < p.cap
      · obtain ⟨g, g', ys, e1, e2, l1, l2, _, r1, r2, hl, hm⟩ := hP.2 h0
        refine ⟨ys, ?_, ?_⟩
        · rw [e1, ← hl]; exact r1.oct (by omega) (by omega)
        · rw [e2, ← hl]; exact r2.oct (by omega) (by omega)
      · have e : p.cap = 0 := by omega
        rw [e]
        exact ⟨[], ⟨⟨rfl, Nat.zero_le _, fun h => by omega⟩, fun h => by omega⟩, ⟨⟨rfl, Nat.zero_le _, fun h => by omega⟩, fun h => by omega⟩⟩
  · rcases List.mem_append.1 hp with hp1 | hp1 <;> rcases List.mem_append.1 hq with hq1 | hq1
    · exact h'.apart p hp1 q hq1 j k hj hk
    · obtain rfl := List.mem_singleton.1 hq1
      obtain ⟨⟨a, ea, la⟩, _⟩ := old p hp1 j hj
      obtain ⟨g, g', hne, l1, l2, hpos⟩ := new k hk
      rw [ea, (hpos k).2]
      intro e
      injection e with e
      rw [e] at la
      simp at la; omega
    · obtain rfl := List.mem_singleton.1 hp1
      obtain ⟨_, ⟨a, ea, la⟩⟩ := old q hq1 k hk
      obtain ⟨g, g', hne, l1, l2, hpos⟩ := new j hj
      rw [ea, (hpos j).1]
      intro e
      injection e with e
      rw [← e] at la
      simp at la; omega
    · obtain rfl := List.mem_singleton.1 hp1
      obtain rfl := List.mem_singleton.1 hq1
      obtain ⟨g, g', hne, l1, l2, hpos⟩ := new j hj
      rw [(hpos j).1, (hpos k).2]
      intro e
      injection e with e
      injection e with e
      exact hne e
  · rcases List.mem_append.1 hp with hp1 | hp1 <;> rcases List.mem_append.1 hq with hq1 | hq1
    · exact h'.alike p hp1 q hq1 j k hj hk
    · obtain rfl := List.mem_singleton.1 hq1
      obtain ⟨⟨a, ea, la⟩, ⟨b, eb, lb⟩⟩ := old p hp1 j hj
      obtain ⟨g, g', hne, l1, l2, hpos⟩ := new k hk
      rw [ea, eb, (hpos k).1, (hpos k).2]
      constructor <;> intro e <;> injection e with e <;> exfalso
      · rw [e] at la; simp at la; omega
      · rw [e] at lb; simp at lb; omega
    · obtain rfl := List.mem_singleton.1 hp1
      obtain ⟨⟨a, ea, la⟩, ⟨b, eb, lb⟩⟩ := old q hq1 k hk
      obtain ⟨g, g', hne, l1, l2, hpos⟩ := new j hj
      rw [ea, eb, (hpos j).1, (hpos j).2]
      constructor <;> intro e <;> injection e with e <;> exfalso
      · rw [← e] at la; simp at la; omega
      · rw [← e] at lb; simp at lb; omega
    · obtain rfl := List.mem_singleton.1 hp1
      obtain rfl := List.mem_singleton.1 hq1
      obtain ⟨g, g', hne, l1, l2, hpos⟩ := new j hj
      rw [(hpos j).1, (hpos k).1, (hpos j).2, (hpos k).2]
      simp

theorem NewPair.of_fresh {w w1 w2 : World} {A B : Option Addr} {n r : Nat} {ys : List Int} (h1 : Fresh w w1 A n r ys) (hb1 : Below w.heap.size w w1) (h2 : Fresh w1 w2 B n r ys) (hb2 : Below w1.heap.size w1 w2) (hr : r ≤ maxLen) : NewPair w w2 ⟨A, B, n, r⟩ := by
  rcases h1 with ⟨rfl, rfl, rfl, rfl⟩ | ⟨g, rfl, l1, r1, e1, e2⟩
  · exact ⟨Nat.le_refl _, fun h => by simp at h⟩
  · refine ⟨e2, fun h0 => ?_⟩
    rcases h2 with ⟨rfl, rfl, rfl, rfl⟩ | ⟨g', rfl, l2, r2, _, _⟩
    · simp at h0
    · have hs := hb1.size
      have hg := blk_lt r1
      exact ⟨g, g', ys, rfl, rfl, l1, by omega, by omega, (hb2.block g hg).trans r1, r2, e1, hr⟩
theorem Fresh.fence {w w' : World} {A : Option Addr} {n r : Nat} {ys : List Int} (h : Fresh w w' A n r ys) : n ≤ r := by
  rcases h with ⟨rfl, rfl, rfl, rfl⟩ | ⟨g, rfl, l1, r1, e1, e2⟩
  · exact Nat.le_refl _
  · exact e2
theorem madeS_room (n r : Int) : (madeS n r).room ≤ 100000 := by
  unfold madeS; split
  · split
    · simp only; omega
    · simp
  · simp
theorem copiedS_room (m : Nat) (xs : List Int) (r : Int) : (copiedS m xs r).room ≤ 100000 := by
  unfold copiedS; split
  · simp
  · split
    · split
      · simp only; omega
      · simp
    · simp

theorem cells0 (w : World) (base : Nat) (hb : base ≤ w.heap.size) (ho : ∀ w : World, w.ownsRow base 28 1 (.slice none 0 0) 0 []) : CellsAt (w.alloc (.cells #[.slice none 0 0, .slice none 0 0] 31)) base w.heap.size [] none none 0 0 :=
  ⟨blk_new _ _, ho _, ho _, ⟨fun _ h => by simp at h, fun _ h => by simp at h, fun _ h => by simp at h, fun _ h => by simp at h⟩, hb, .inr rfl⟩
theorem own0 (base : Nat) (w : World) : w.ownsRow base 28 1 (.slice none 0 0) 0 [] := by
  refine ⟨rfl, .inl ⟨rfl, rfl⟩⟩

set_option maxHeartbeats 4000000 in
set_option maxRecDepth 100000 in
theorem roomMakes (A : Option Addr) (m c : Nat) (have_ n : Int) (xs : List Int) (SA : Option Addr) (sl sc : Nat) (ys : List Int) (w : World) (hr : ReadsInt w .u8 A m xs) (hm : m ≤ 140737488355328) (hs : ReadsInt w .i64 SA sl ys) (hsc : sl ≤ sc) :
    Calls Try.prog 4 #[.slice A m c, .int .i64 have_, .int .i64 n, .slice SA sl sc] w fun e w' => e = .returned (.bool true) ∧ Below w.heap.size w w' := by
  have HR := Aside0.mk hr
  have HS := Aside0.mk hs
  have H0 := Aside0.mk (cells0 w w.heap.size (Nat.le_refl _) (own0 _))
  have HB0 := Aside0.mk (below_alloc (o := .cells #[.slice none 0 0, .slice none 0 0] 31) (Below.refl w.heap.size w))
  have hsz : (w.alloc (.cells #[.slice none 0 0, .slice none 0 0] 31)).heap.size = w.heap.size + 1 := alloc_size _ _
  have HZ := Lib.hid hsz
  clear hr hs hsz
  go_enter Try.func4, Try.ntmps4
  go_wp2_with fail
  refine (twice A m c xs _ (HR.out.below HB0.out) hm).mono ?_
  rintro e w1 ⟨g1, g2, zs, rfl, hne, l1, l2, r1, r2, hz, hb1⟩
  rw [HZ.out] at l1 l2
  have HT1 : Aside0 (Twins w1 w.heap.size ([] ++ [⟨some ⟨g1, 0, none⟩, some ⟨g2, 0, none⟩, m, m + 3⟩])) := ⟨Twins.more (w := w.alloc (.cells #[.slice none 0 0, .slice none 0 0] 31)) H0.out.twins hb1 HB0.out.size ⟨by simp, fun _ => ⟨g1, g2, xs ++ zs, rfl, rfl, by rw [HZ.out]; omega, by rw [HZ.out]; omega, hne, r1, r2, by simp [HR.out.1, hz], by unfold maxLen; simp; omega⟩⟩⟩
  have HC1 := Aside0.mk (H0.out.below hb1)
  have HB1 := Aside0.mk (below_then HB0.out HB0.out.size hb1)
  have HR1 := Aside0.mk r1
  have HR2 := Aside0.mk r2
  clear hb1 r1 r2 l1 l2
  go_wp2_with fail
  refine (add w.heap.size [] w.heap.size none none 0 0 w1 HC1.out (by simp) HB1.out.size (some ⟨g1, 0, none⟩) (some ⟨g2, 0, none⟩) m (m + 3) HT1.out (by simp; omega)).mono ?_
  rintro e w2 ⟨rfl, ⟨o1, o2, oc1, oc2, hc2⟩, hb2, hk2⟩
  have HC2 := Aside0.mk hc2
  have HB2 := Aside0.mk (HB1.out.trans hb2)
  have HK2 := Aside0.mk hk2
  clear hc2 hb2 hk2
  go_wp2_with fail
  refine (made n have_ w2).mono ?_
  rintro e w3 ⟨XA, rfl, hf3, hb3⟩
  have HF3 := Aside0.mk hf3
  have HB3 := Aside0.mk hb3
  clear hf3 hb3
  go_wp2_with fail
  refine (madeOf n have_ w3).mono ?_
  rintro e w4 ⟨YA, rfl, hf4, hb4⟩
  have HN1 := Aside0.mk (NewPair.of_fresh HF3.out HB3.out hf4 hb4 (by have := madeS_room n have_; unfold maxLen; omega))
  have HB4 := Aside0.mk (below_then HB3.out HB3.out.size hb4)
  clear hf4 hb4
  generalize hS1 : madeS n have_ = s1 at HN1 HF3 ⊢
  have hroom1 : s1.room ≤ 100000 := by rw [← hS1]; exact madeS_room n have_
  clear hS1
  have HM : Hid (m ≤ maxLen) := Lib.hid (by unfold maxLen; omega)
  have HX : Hid (xs.length = m) := Lib.hid HR.out.1
  have HR4 : Aside0 (ReadsInt w4 .u8 (some ⟨g1, 0, none⟩) m xs) := ⟨by
    have := (((HK2.out.trans (Octets.of_below HB4.out)).row HR1.out)).reads (by rw [HX.out]; exact HM.out)
    rwa [HX.out] at this⟩
  go_wp2_with fail
  refine (copiedOwn (some ⟨g1, 0, none⟩) m (m + 3) have_ xs w4 HR4.out).mono ?_
  rintro e w5 ⟨UA, rfl, hf5, hb5⟩
  have HF5 := Aside0.mk hf5
  have HB5 := Aside0.mk hb5
  clear hf5 hb5
  have HR5 : Aside0 (ReadsInt w5 .u8 (some ⟨g2, 0, none⟩) m xs) := ⟨by
    have := ((((HK2.out.trans (Octets.of_below HB4.out)).trans (Octets.of_below HB5.out)).row HR2.out)).reads (by rw [HX.out]; exact HM.out)
    rwa [HX.out] at this⟩
  go_wp2_with fail
  refine (copiedOf (some ⟨g2, 0, none⟩) m (m + 3) have_ xs w5 HR5.out).mono ?_
  rintro e w6 ⟨VA, rfl, hf6, hb6⟩
  have HN2 := Aside0.mk (NewPair.of_fresh HF5.out HB5.out hf6 hb6 (by have := copiedS_room m xs have_; unfold maxLen; omega))
  have HB6 := Aside0.mk (below_then HB5.out HB5.out.size hb6)
  clear hf6 hb6
  generalize hS2 : copiedS m xs have_ = s2 at HN2 HF5 ⊢
  have hroom2 : s2.room ≤ 100000 := by rw [← hS2]; exact copiedS_room m xs have_
  clear hS2
  have HT2 := Aside0.mk (HC2.out.twins)
  have HT4 := Aside0.mk (HT2.out.more HB4.out HB2.out.size HN1.out)
  have HB46 := Aside0.mk (below_then HB4.out HB4.out.size HB6.out)
  have HT6 := Aside0.mk (HT4.out.more HB6.out (Nat.le_trans HB2.out.size HB4.out.size) HN2.out)
  have HC6 := Aside0.mk (HC2.out.below HB46.out)
  have HB06 := Aside0.mk (below_then HB2.out HB2.out.size HB46.out)
  have hcc : ∀ P ∈ ([] ++ [⟨some ⟨g1, 0, none⟩, some ⟨g2, 0, none⟩, m, m + 3⟩] ++ [⟨XA, YA, s1.n, s1.room⟩] ++ [⟨UA, VA, s2.n, s2.room⟩] : List Pair), P.cap ≤ 4611686018427387904 ∧ (P.n = P.cap → P.cap ≤ 100000000000) := by
    intro P hP
    simp only [List.nil_append, List.cons_append, List.mem_cons, List.not_mem_nil, or_false] at hP
    rcases hP with rfl | rfl | rfl
    · simp; omega
    · simp; omega
    · simp; omega
  have HCC := Lib.hid hcc
  clear hcc
  go_wp2_with fail
  refine (add w.heap.size _ w.heap.size _ _ _ _ w6 HC6.out (by simp) HB06.out.size XA YA s1.n s1.room (HT6.out.sub (fun P hP => List.mem_append_left _ hP)) (fun P hP => (HCC.out P (List.mem_append_left _ hP)).1)).mono ?_
  rintro e w7 ⟨rfl, ⟨o3, o4, oc3, oc4, hc7⟩, hb7, hk7⟩
  have HC7 := Aside0.mk hc7
  have HB7 := Aside0.mk (HB06.out.trans hb7)
  have HT7 := Aside0.mk (HT6.out.keep hk7)
  clear hc7 hb7 hk7
  go_wp2_with fail
  refine (add w.heap.size _ w.heap.size _ _ _ _ w7 HC7.out (by simp) HB7.out.size UA VA s2.n s2.room HT7.out (fun P hP => (HCC.out P hP).1)).mono ?_
  rintro e w8 ⟨rfl, ⟨o5, o6, oc5, oc6, hc8⟩, hb8, hk8⟩
  have HC8 := Aside0.mk hc8
  have HB8 := Aside0.mk (HB7.out.trans hb8)
  clear hc8 hb8 hk8
  go_wp2_with fail
  refine (poke w.heap.size _ w.heap.size _ _ _ _ w8 HC8.out (by simp) (fun P hP => (HCC.out P hP).1) (fun P hP => (HCC.out P hP).2) SA sl sc ys (fun w' hw' => HS.out.below (HB8.out.trans hw')) hsc HB8.out.size).mono ?_
  rintro e w9 ⟨rfl, hb9⟩
  have HB9 := Aside0.mk (HB8.out.trans hb9)
  clear hb9
  go_wp2_with fail
  go_ret
  exact ⟨rfl, HB9.out⟩

theorem roomMakes_row (a0 : Option Addr) (len0 cap0 : Nat) (zs0 : List Int) (a1 a2 : Int) (a3 : Option Addr) (len3 cap3 : Nat) (zs3 : List Int) (w : World) (hrow0 : (a0 = none ∧ len0 = 0 ∧ cap0 = 0 ∧ zs0 = []) ∨
    ∃ x, a0 = some x ∧ len0 ≤ cap0 ∧ cap0 ≤ maxLen ∧ zs0.length = cap0 ∧ (∀ i, i < zs0.length → w.cell? (x.add i) = some (.int .u8 (zs0.getD i 0))) ∧ ∀ n ∈ zs0, (Lit.int .u8 n).wf = true) (y0 : len0 * 1 ≤ 140737488351232) (_ : (Lit.int .i64 a1).wf = true) (_ : (Lit.int .i64 a2).wf = true)
    (hrow3 : (a3 = none ∧ len3 = 0 ∧ cap3 = 0 ∧ zs3 = []) ∨
    ∃ x, a3 = some x ∧ len3 ≤ cap3 ∧ cap3 ≤ maxLen ∧ zs3.length = cap3 ∧ (∀ i, i < zs3.length → w.cell? (x.add i) = some (.int .i64 (zs3.getD i 0))) ∧ ∀ n ∈ zs3, (Lit.int .i64 n).wf = true) (_ : len3 * 8 ≤ 140737488351232) :
    Calls Try.prog 4 #[.slice a0 len0 cap0, .int .i64 a1, .int .i64 a2, .slice a3 len3 cap3] w fun e w' => e = .returned (.bool true) ∧ Below w.heap.size w w' := by
  obtain ⟨xs, rfl, hr, _, _, _⟩ := ReadsInt.ofRowC hrow0
  obtain ⟨ys, rfl, hs, _, _, hc⟩ := ReadsInt.ofRowC hrow3
  exact roomMakes a0 _ cap0 a1 a2 xs a3 _ cap3 ys w hr (by omega) hs hc
end Go.Proofs.Ytancgipidbojkaa.Twin
