/- Groups' visit, at any leads. -/
import Derived.Test.YtghdeoeajbnfkaaWMallP
import Derived.Maps.AppendAt
namespace Go.Proofs.Ytghdeoeajbnfkaa.WSl
open Go.RowKit Go.Proofs.YtghdeoeajbnfkaaW.PrintWords Go.Proofs.YtghdeoeajbnfkaaW.PrintLast Go.Proofs.YtghdeoeajbnfkaaW.PrintMore Go.Proofs.Ytghdeoeajbnfkaa.WMem Go.Proofs.Ytghdeoeajbnfkaa.MapInt
set_option linter.unusedSimpArgs false
set_option linter.unusedVariables false

theorem mget_mput (l : List (Int × Value)) (k k' : Int) (v : Value) : mget (mput l k v) k' = if k' = k then some v else mget l k' := by
  induction l with
  | nil => simp [mput, mget]
  | cons x l ih =>
    obtain ⟨a, b⟩ := x
    unfold mput
    by_cases h1 : k = a
    · rw [if_pos h1]
      unfold mget
      by_cases h2 : k' = k
      · rw [if_pos h2, if_pos h2]
      · rw [if_neg h2, if_neg h2, if_neg (fun e => h2 (e.trans h1.symm))]
    · rw [if_neg h1]
      unfold mget
      by_cases h3 : k' = a
      · rw [if_pos h3, if_pos h3, if_neg (fun e => h1 (e.symm.trans h3))]
      · rw [if_neg h3, if_neg h3, ih]

/-- Block r is a map of rows; the rows lie in blocks of their own, from B on, among S. -/
structure Leads (w : World) (B : Nat) (S : Nat → Prop) (r : Nat) (l : List (Int × Value)) (adj : Int → List Int) : Prop where
  rB : r < B
  map : IntMap w r l
  row : ∀ k v, mget l k = some v → w.ownsRow B 3 1 v (adj k).length ((adj k).map (Value.int .i64))
  hi : ∀ k v b, mget l k = some v → v.ownBlock = some b → S b
  non : ∀ k, mget l k = none → adj k = []
  apart : ∀ k k' v v' b, k ≠ k' → mget l k = some v → mget l k' = some v' → v.ownBlock = some b → v'.ownBlock ≠ some b

theorem ownsRow_keep {w w1 : World} {B size n : Nat} {e : TypeId} {v : Value} {xs : List Value} (h : w.ownsRow B e size v n xs) (hk : ∀ b, v.ownBlock = some b → w1.heap[b]? = w.heap[b]?) : w1.ownsRow B e size v n xs := by
  refine ⟨h.1, ?_⟩
  rcases h.2 with hn | ⟨g, cap, cur, rfl, hb, hgg, rest⟩
  · exact .inl hn
  · exact .inr ⟨g, cap, cur, rfl, hb, (hk g rfl).trans hgg, rest⟩

theorem Leads.move {w w1 : World} {B r : Nat} {S : Nat → Prop} {l : List (Int × Value)} {adj : Int → List Int} (h : Leads w B S r l adj) (hr : w1.heap[r]? = w.heap[r]?) (hm : ∀ k, B ≤ k → k < w.heap.size → S k → w1.heap[k]? = w.heap[k]?) : Leads w1 B S r l adj :=
  ⟨h.rB, h.map.of_heap hr, fun k v hv => ownsRow_keep (h.row k v hv) (fun b hb => hm b ((h.row k v hv).lt b hb).1 ((h.row k v hv).lt b hb).2 (h.hi k v b hv hb)), h.hi, h.non, h.apart⟩

theorem Leads.mono {w : World} {B r : Nat} {S S' : Nat → Prop} {l : List (Int × Value)} {adj : Int → List Int} (h : Leads w B S r l adj) (hS : ∀ b, S b → b < w.heap.size → S' b) : Leads w B S' r l adj :=
  ⟨h.rB, h.map, h.row, fun k v b hv hb => hS b (h.hi k v b hv hb) ((h.row k v hv).lt b hb).2, h.non, h.apart⟩

theorem Leads.made (w : World) (B : Nat) (S : Nat → Prop) (hB : w.heap.size < B) : Leads (w.alloc (.map #[] 0)) B S w.heap.size [] (adjOf []) :=
  ⟨hB, IntMap.made w, fun k v h => by simp [mget] at h, fun k v b h => by simp [mget] at h, fun k _ => rfl, fun k k' v v' b _ h => by simp [mget] at h⟩

theorem lead_step (W0 : World) (B r : Nat) (S : Nat → Prop) (l : List (Int × Value)) (adj : Int → List Int) (a b : Int) (h : Leads W0 B S r l adj) (hB : B ≤ W0.heap.size) (hlen : (adj a).length ≤ 1000000) :
    ∃ v0 v1 W2 W3, (Instr.lookup 64 (.map (some r)) (.int .i64 a) false).run Try.prog W0 = .ok v0 W0 ∧
      (Instr.lookup 64 (.map (some r)) (.int .i64 a) false).run Try.prog (W0.alloc (.cells #[.int .i64 b] 3)) = .ok v0 (W0.alloc (.cells #[.int .i64 b] 3)) ∧
      (∀ ty, (Builtin.append_ #[35, 35] ty #[v0, .slice (some ⟨W0.heap.size, 0, none⟩) 1 1]).run Try.prog (W0.alloc (.cells #[.int .i64 b] 3)) = .ok v1 W2) ∧
      (Instr.mapUpdate 64 (.map (some r)) (.int .i64 a) v1).run Try.prog W2 = .ok () W3 ∧
      Leads W3 B (fun b => S b ∨ b = W0.heap.size + 1) r (mput l a v1) (upd adj a b) ∧ Below r W0 W3 ∧ W0.heap.size ≤ W3.heap.size ∧
      (∀ k, k < W0.heap.size → k ≠ r → k < B ∨ ¬ S k → W2.heap[k]? = W0.heap[k]? ∧ W3.heap[k]? = W0.heap[k]?) := by
  have hrlt := h.map.lt
  have hmA : IntMap (W0.alloc (.cells #[.int .i64 b] 3)) r l := h.map.of_heap (Below.heap_alloc _ _ _ hrlt)
  -- the row that is there
  obtain ⟨v0, hl0, hl1, hown, hv0U, hv0a⟩ : ∃ v0, (Instr.lookup 64 (.map (some r)) (.int .i64 a) false).run Try.prog W0 = .ok v0 W0 ∧
      (Instr.lookup 64 (.map (some r)) (.int .i64 a) false).run Try.prog (W0.alloc (.cells #[.int .i64 b] 3)) = .ok v0 (W0.alloc (.cells #[.int .i64 b] 3)) ∧
      W0.ownsRow B 3 1 v0 (adj a).length ((adj a).map (Value.int .i64)) ∧ (∀ x, v0.ownBlock = some x → S x) ∧ (∀ k v x, k ≠ a → mget l k = some v → v.ownBlock = some x → v0.ownBlock ≠ some x) := by
    cases hg : mget l a with
    | some v =>
      refine ⟨v, run_lookup_some Try.underlying64 Try.underlying3 h.map hg false, run_lookup_some Try.underlying64 Try.underlying3 hmA hg false, h.row a v hg, fun x hx => h.hi a v x hg hx, fun k v' x hk hv' hx => ?_⟩
      exact h.apart k a v' v x hk hv' hg hx
    | none =>
      refine ⟨.slice none 0 0, run_lookup_none (P := Try.prog) (t := 64) Try.underlying64 Try.underlying3 h.map hg (z := .slice none 0 0) (et := 35) (by rfl) false, run_lookup_none (P := Try.prog) (t := 64) Try.underlying64 Try.underlying3 hmA hg (z := .slice none 0 0) (et := 35) (by rfl) false, ?_, fun x hx => by simp [Value.ownBlock] at hx, fun k v' x hk hv' hx => by simp [Value.ownBlock]⟩
      rw [h.non a hg]
      exact World.ownsRow_nil _ _ _ _
  obtain ⟨i0, hi, hz0, hz1, hz2⟩ := info_parts infoInt
  have hsz : (W0.alloc (.cells #[.int .i64 b] 3)).heap.size = W0.heap.size + 1 := by simp
  have hap := fun ty => run_append_own_at (P := Try.prog) (W0.alloc (.cells #[.int .i64 b] 3)) B 35 ty 3 i0 (.int .i64 0) 1 8 Try.underlying35 hi hz0 hz1 hz2 rfl (by decide) v0 _ _ (hown.alloc _) ⟨W0.heap.size, 0, none⟩ 1 1 [.int .i64 b] rfl (fun j u hj => by
      match j, hj with
      | 0, hj =>
        simp at hj
        subst hj
        exact blk_cell (blk_new W0 (.cells #[.int .i64 b] 3)) 0
      | j + 1, hj => simp at hj) (by simp [Value.oneCell']) (by unfold maxLen; omega) (by omega) (by rw [hsz]; omega)
  obtain ⟨v1, W2, hrun, hown1, hg1, _, hat⟩ := hap 0
  have hrunA : ∀ ty, (Builtin.append_ #[35, 35] ty #[v0, .slice (some ⟨W0.heap.size, 0, none⟩) 1 1]).run Try.prog (W0.alloc (.cells #[.int .i64 b] 3)) = .ok v1 W2 := fun ty => hrun
  have hv0B : ∀ x, v0.ownBlock = some x → B ≤ x ∧ x < W0.heap.size := fun x hx => hown.lt x hx
  have hrB := h.rB
  have keep2 : ∀ k, k < W0.heap.size → v0.ownBlock ≠ some k → W2.heap[k]? = W0.heap[k]? := fun k hk hne =>
    (hg1.block k (by omega) (fun e => hne e.symm)).trans (Below.heap_alloc _ _ _ hk)
  have hm2 : IntMap W2 r l := h.map.of_heap (keep2 r hrlt (fun e => by have := (hv0B r e).1; omega))
  obtain ⟨W3, hup, hm3, hg3, hs3⟩ := run_update Try.underlying64 Try.underlying3 hm2 a v1
  have hs2 : W0.heap.size + 1 ≤ W2.heap.size := by have := hg1.size; omega
  have keep3 : ∀ k, k < W2.heap.size → k ≠ r → W3.heap[k]? = W2.heap[k]? := fun k hk hne => hg3.block k hk (by simpa using hne)
  have hv1B : ∀ x, v1.ownBlock = some x → B ≤ x ∧ x < W2.heap.size := fun x hx => hown1.lt x hx
  have hlen1 : (upd adj a b a).length = (adj a).length + 1 := by simp [upd]
  refine ⟨v0, v1, W2, W3, hl0, hl1, hrunA, hup, ⟨h.rB, hm3, fun k v hv => ?_, fun k v x hv hx => ?_, fun k hv => ?_, fun k k' v v' x hne hv hv' hx => ?_⟩, ⟨?_, ?_, ?_, ?_, ?_⟩, by omega, fun k hk hkr hkB => ?_⟩
  · rw [mget_mput] at hv
    by_cases he : k = a
    · rw [if_pos he] at hv
      cases hv
      subst he
      have : upd adj k b k = adj k ++ [b] := by simp [upd]
      rw [this, List.length_append, List.length_singleton, List.map_append]
      exact ownsRow_keep hown1 (fun x hx => keep3 x (hv1B x hx).2 (by have := (hv1B x hx).1; omega))
    · rw [if_neg he] at hv
      have : upd adj a b k = adj k := by simp [upd, he]
      rw [this]
      refine ownsRow_keep (h.row k v hv) (fun x hx => ?_)
      have hxB := (h.row k v hv).lt x hx
      rw [keep3 x (by omega) (by omega)]
      exact keep2 x hxB.2 (hv0a k v x he hv hx)
  · rw [mget_mput] at hv
    by_cases he : k = a
    · rw [if_pos he] at hv
      cases hv
      rcases hat with e | e
      · exact .inl (hv0U x (by rw [← e]; exact hx))
      · rw [e, hsz] at hx
        injection hx with hx
        exact .inr hx.symm
    · rw [if_neg he] at hv
      exact .inl (h.hi k v x hv hx)
  · rw [mget_mput] at hv
    by_cases he : k = a
    · rw [if_pos he] at hv; cases hv
    · rw [if_neg he] at hv
      have : upd adj a b k = adj k := by simp [upd, he]
      rw [this]
      exact h.non k hv
  · rw [mget_mput] at hv hv'
    have old : ∀ q u y, q ≠ a → mget l q = some u → u.ownBlock = some y → v1.ownBlock ≠ some y := fun q u y hq hu hy => by
      rcases hat with e | e
      · rw [e]; exact hv0a q u y hq hu hy
      · rw [e]
        have := ((h.row q u hu).lt y hy).2
        intro e2
        injection e2 with e2
        omega
    by_cases he : k = a
    · rw [if_pos he] at hv
      cases hv
      rw [if_neg (fun e => hne (he.trans e.symm))] at hv'
      intro e2
      exact old k' v' x (fun e => hne (he.trans e.symm)) hv' e2 hx
    · rw [if_neg he] at hv
      by_cases he' : k' = a
      · rw [if_pos he'] at hv'
        cases hv'
        exact old k v x he hv hx
      · rw [if_neg he'] at hv'
        exact h.apart k k' v v' x hne hv hv' hx
  · exact hg3.os.trans hg1.os
  · exact hg3.tape.trans hg1.tape
  · exact hg3.output.trans hg1.output
  · omega
  · intro k hk
    rw [keep3 k (by omega) (by omega)]
    exact keep2 k (by omega) (fun e => by have := (hv0B k e).1; omega)
  · have h2 := keep2 k hk (fun e => by
      have h8 := (hv0B k e).1
      have h9 := hv0U k e
      rcases hkB with h7 | h7
      · omega
      · exact h7 h9)
    exact ⟨h2, (keep3 k (by omega) hkr).trans h2⟩

end Go.Proofs.Ytghdeoeajbnfkaa.WSl

namespace Go.Proofs.Ytghdeoeajbnfkaa.WSl
open Go.RowKit Go.Proofs.YtghdeoeajbnfkaaW.PrintWords Go.Proofs.YtghdeoeajbnfkaaW.PrintLast Go.Proofs.YtghdeoeajbnfkaaW.PrintMore Go.Proofs.Ytghdeoeajbnfkaa.WMem Go.Proofs.Ytghdeoeajbnfkaa.MapInt
set_option linter.unusedSimpArgs false
set_option linter.unusedVariables false

def vfn (p q z : Nat) : Value := .func (.func 26) #[] #[.pointer (some ⟨p, 0, none⟩), .pointer (some ⟨q, 0, none⟩), .pointer (some ⟨z, 0, none⟩)]

/-- Groups' variables: the row of groups at block g (in the variable at p), the map at r (in the variable at q), the function itself at z. -/
structure VA (w : World) (p q z g B r n : Nat) (l : List (Int × Value)) (adj : Int → List Int) (xs : List Int) : Prop where
  len : xs.length = n
  out : ∃ cc, n ≤ cc ∧ w.cell? ⟨p, 0, none⟩ = some (.slice (some ⟨g, 0, none⟩) n cc)
  leads : w.cell? ⟨q, 0, none⟩ = some (.map (some r))
  fn : w.cell? ⟨z, 0, none⟩ = some (vfn p q z)
  map : Leads w B (fun b => b < g) r l adj
  row : ∀ j, j < n → w.cell? ⟨g, j, none⟩ = some (.int .i64 (xs.getD j 0)) ∧ w.frozen? ⟨g, j, none⟩ = false

theorem VA.set {w : World} {p q z g B r n : Nat} {l : List (Int × Value)} {adj : Int → List Int} {xs : List Int} (h : VA w p q z g B r n l adj xs) (a : Nat) (v : Int) (ha : a < n) (hp : p ≠ g) (hq : q ≠ g) (hz : z ≠ g) (hr : r ≠ g) :
    VA (w.setCell ⟨g, a, none⟩ (.int .i64 v)) p q z g B r n l adj (xs.set a v) := by
  have far : ∀ (b : Nat) (i : Nat), b ≠ g → (w.setCell ⟨g, a, none⟩ (.int .i64 v)).cell? ⟨b, i, none⟩ = w.cell? ⟨b, i, none⟩ := fun b i hb => World.cell?_setCell_far _ _ _ _ (show g ≠ b from fun e => hb e.symm)
  refine ⟨by rw [List.length_set, h.len], ⟨_, h.out.choose_spec.1, (far p 0 hp).trans h.out.choose_spec.2⟩, (far q 0 hq).trans h.leads, (far z 0 hz).trans h.fn, h.map.move (Below.heap_setCell _ _ _ _ hr) (fun k _ _ hk => Below.heap_setCell _ _ _ _ (by show k ≠ g; omega)), fun j hj => ⟨?_, ?_⟩⟩
  · by_cases he : a = j
    · subst he
      rw [World.cell?_setCell_same _ _ _ (h.row a ha).1, List.getD_eq_getElem?_getD, List.getElem?_set, if_pos rfl, if_pos (by rw [h.len]; exact ha)]
      rfl
    · rw [World.cell?_setCell_other (h := at_ne (fun e => he e.2)), (h.row j hj).1, List.getD_eq_getElem?_getD, List.getD_eq_getElem?_getD, List.getElem?_set, if_neg he]
  · rw [World.frozen?_setCell]
    exact (h.row j hj).2

/-- A neighbour of a position, as it lies in the map. -/
theorem lead_cell {w : World} {B : Nat} {e : TypeId} {v : Value} {xs : List Int} (h : w.ownsRow B e 1 v xs.length (xs.map (Value.int .i64))) (i : Nat) (hi : i < xs.length) : ∃ b c, v = .slice (some ⟨b, 0, none⟩) xs.length c ∧ w.cell? ⟨b, i, none⟩ = some (.int .i64 (xs.getD i 0)) := by
  rcases h.2 with ⟨_, h0⟩ | ⟨g, cap, cur, rfl, _, hg, _, _, _, ht⟩
  · omega
  · refine ⟨g, cap, rfl, ?_⟩
    simp only [World.cell?, hg]
    have h1 : (cur.toList.take (xs.length * 1))[i]? = (xs.map (Value.int .i64))[i]? := by rw [ht]
    rw [List.getElem?_take, if_pos (by omega)] at h1
    simp at h1
    simp [h1, List.getD_eq_getElem?_getD, hi]

theorem lead_look {w : World} {B r : Nat} {S : Nat → Prop} {l : List (Int × Value)} {adj : Int → List Int} (h : Leads w B S r l adj) (a : Int) :
    ∃ A c, (Instr.lookup 64 (.map (some r)) (.int .i64 a) false).run Try.prog w = .ok (.slice A (adj a).length c) w ∧ ∀ w1, Leads w1 B S r l adj → ∀ i, i < (adj a).length → ∃ b, A = some ⟨b, 0, none⟩ ∧ w1.cell? ⟨b, i, none⟩ = some (.int .i64 ((adj a).getD i 0)) := by
  cases hg : mget l a with
  | none =>
    refine ⟨none, 0, ?_, fun w1 _ i hi => ?_⟩
    · rw [h.non a hg]
      exact run_lookup_none (P := Try.prog) (t := 64) Try.underlying64 Try.underlying3 h.map hg (z := .slice none 0 0) (et := 35) (by rfl) false
    · rw [h.non a hg] at hi
      exact absurd hi (Nat.not_lt_zero _)
  | some v =>
    have hlk := run_lookup_some (P := Try.prog) (t := 64) Try.underlying64 Try.underlying3 h.map hg false
    have ho := h.row a v hg
    by_cases h0 : 0 < (adj a).length
    · obtain ⟨b, c, rfl, _⟩ := lead_cell ho 0 h0
      refine ⟨_, c, hlk, fun w1 h1 i hi => ⟨b, rfl, ?_⟩⟩
      obtain ⟨b', c', e, hc⟩ := lead_cell (h1.row a _ hg) i hi
      injection e with e1 _ _
      injection e1 with e1
      injection e1 with e1
      rw [e1]
      exact hc
    · rcases ho.2 with ⟨rfl, h1⟩ | ⟨b, c, cur, rfl, _⟩
      · rw [h1] at *
        exact ⟨none, 0, hlk, fun w1 _ i hi => by omega⟩
      · exact ⟨_, c, hlk, fun w1 _ i hi => by omega⟩

/-- While the neighbours are visited. -/
structure VStep (w wr : World) (p q z g B r n : Nat) (l : List (Int × Value)) (adj : Int → List Int) (xs zs : List Int) (a least : Int) (k : Nat) : Prop where
  only : Only (fun b _ => b = g) w wr
  va : VA wr p q z g B r n l adj zs
  vis : Vis adj n a least xs zs
  done : ∀ i, i < k → 0 ≤ lab zs ((adj a).getD i 0)

theorem VStep.next {w wr w5 : World} {p q z g B r n : Nat} {l : List (Int × Value)} {adj : Int → List Int} {xs zs ys : List Int} {a least y : Int} {k : Nat} (hin : Inner adj n) (hl0 : 0 ≤ least) (h : VStep w wr p q z g B r n l adj xs zs a least k) (hk : k < (adj a).length) (hy : y = (adj a).getD k 0)
    (ho : Only (fun b _ => b = g) wr w5) (hv : VA w5 p q z g B r n l adj ys) (hvis : Vis adj n y least zs ys) (hlab : 0 ≤ lab ys y) : VStep w w5 p q z g B r n l adj xs ys a least (k + 1) := by
  have hm : ∀ i, i < (adj a).length → (adj a).getD i 0 ∈ adj a := fun i hi => by
    rw [List.getD_eq_getElem?_getD, List.getElem?_eq_getElem hi]
    exact List.getElem_mem _
  subst hy
  refine ⟨h.only.trans ho, hv, h.vis.next hin hvis (hm k hk) hl0, fun i hi => ?_⟩
  by_cases he : i = k
  · subst he; exact hlab
  · have hd := h.done i (by omega)
    have hib2 := hin a _ (hm i (by omega))
    rw [hvis.keep _ hib2.1 hib2.2 hd]
    exact hd

set_option maxHeartbeats 4000000 in
set_option maxRecDepth 100000 in
theorem visit (p q z g B r n : Nat) (l : List (Int × Value)) (adj : Int → List Int) (least : Int) (hl0 : 0 ≤ least) (hin : Inner adj n) (hn : n ≤ 1000000) (hal : ∀ k, (adj k).length ≤ 1000000) (hpg : p ≠ g) (hqg : q ≠ g) (hzg : z ≠ g) (hrg : r ≠ g) (m : Nat) :
    ∀ (a : Int) (xs : List Int) (w : World), VA w p q z g B r n l adj xs → 0 ≤ a → a < n → negs xs n ≤ m →
    Calls Try.prog 26 #[.int .i64 a, .int .i64 least, .pointer (some ⟨p, 0, none⟩), .pointer (some ⟨q, 0, none⟩), .pointer (some ⟨z, 0, none⟩)] w fun e w' => e = .returned (.tuple #[]) ∧ Only (fun b _ => b = g) w w' ∧ ∃ ys, VA w' p q z g B r n l adj ys ∧ Vis adj n a least xs ys ∧ 0 ≤ lab ys a := by
  induction m with
  | zero =>
    intro a xs w h ha han hm
    obtain ⟨cc, _, c1⟩ := h.out
    obtain ⟨c3, f3⟩ := h.row a.toNat (by omega)
    obtain ⟨an, rfl⟩ : ∃ an : Nat, a = an := ⟨a.toNat, by omega⟩
    have han2 : an < n := by omega
    rw [Int.toNat_natCast] at c3 f3
    obtain ⟨x, hx⟩ : ∃ x, x = xs.getD an 0 := ⟨_, rfl⟩
    have hxl : x = lab xs an := by rw [hx]; rfl
    rw [← hx] at c3
    have hx0 : 0 ≤ x := by
      rcases Int.lt_or_le x 0 with h1 | h1
      · have := negs_lt (xs := xs) (ys := List.replicate n 0) an (by omega) (by simp [lab, List.getD_eq_getElem?_getD, han2]) n han2 (fun j hj hy => by simp [lab, List.getD_eq_getElem?_getD, hj] at hy)
        omega
      · exact h1
    have HV := Aside0.mk h
    have HX := Lib.hid hxl
    clear h hxl hx hm
    go_enter Try.func26, Try.ntmps26
    go_wp2
    refine bodyPost_ret (results_none rfl _ _ _) rfl ?_
    exact ⟨rfl, Only.refl _, xs, HV.out, Vis.refl _ _ _ _ _, by rw [← HX.out]; exact hx0⟩
  | succ m ih =>
    intro a xs w h ha han hm
    obtain ⟨cc, _, c1⟩ := h.out
    obtain ⟨c3, f3⟩ := h.row a.toNat (by omega)
    obtain ⟨an, rfl⟩ : ∃ an : Nat, a = an := ⟨a.toNat, by omega⟩
    have han2 : an < n := by omega
    rw [Int.toNat_natCast] at c3 f3
    obtain ⟨x, hx⟩ : ∃ x, x = xs.getD an 0 := ⟨_, rfl⟩
    have hxl : x = lab xs an := by rw [hx]; rfl
    rw [← hx] at c3
    by_cases hx0 : 0 ≤ x
    · have HV := Aside0.mk h
      have HX := Lib.hid hxl
      clear h hxl hx
      go_enter Try.func26, Try.ntmps26
      go_wp2
      refine bodyPost_ret (results_none rfl _ _ _) rfl ?_
      exact ⟨rfl, Only.refl _, xs, HV.out, Vis.refl _ _ _ _ _, by rw [← HX.out]; exact hx0⟩
    · have HV := Aside0.mk (h.set an least han2 hpg hqg hzg hrg)
      have c2 : (w.setCell ⟨g, an, none⟩ (.int .i64 least)).cell? ⟨q, 0, none⟩ = some (.map (some r)) := HV.out.leads
      obtain ⟨A, c, hlk, hnb⟩ := lead_look HV.out.map an
      have hxn : x < 0 := by omega
      have hneg : negs (xs.set an least) n < negs xs n := by
        have hs : ∀ j : Int, 0 ≤ j → j < n → lab (xs.set an least) j = if j = an then least else lab xs j := fun j h0 hj => lab_set xs an j least (by omega) (by rw [h.len]; omega) h0 (by rw [h.len]; omega)
        refine negs_lt an (by omega) (by rw [hs an (by omega) (by omega), if_pos rfl]; exact hl0) n han2 (fun j hj hy => ?_)
        rw [hs j (by omega) (by omega)] at hy
        by_cases he : (j : Int) = an
        · rw [if_pos he] at hy; omega
        · rw [if_neg he] at hy; exact hy
      have HNB := Aside0.mk hnb
      have HNG := Lib.hid (show negs (xs.set an least) n ≤ m by omega)
      have HXN := Lib.hid (show lab xs an < 0 by omega)
      have HLEN := Lib.hid h.len
      have hK := hal an
      have HO : Aside0 (Only (fun b _ => b = g) w (w.setCell ⟨g, an, none⟩ (.int .i64 least))) := ⟨(Only.refl w).setCell _ _ (.inl rfl)⟩
      obtain ⟨K, hKe⟩ : ∃ K, K = (adj an).length := ⟨_, rfl⟩
      have HKE := Lib.hid hKe
      rw [← hKe] at hlk hK
      clear h hneg hm hnb hxl hx hKe
      go_enter Try.func26, Try.ntmps26
      go_wp2
      go_loopw [8, 22] (fun _ i wr => ∃ (k : Nat) (zs : List Int), k ≤ K ∧ i = .int .i64 k ∧ Aside0 (VStep (w.setCell ⟨g, an, none⟩ (.int .i64 least)) wr p q z g B r n l adj (xs.set an least) zs an least k)) (fun _ i _ => K - (intOf i).toNat)
      case atStart => exact ⟨0, _, Nat.zero_le _, rfl, ⟨Only.refl _, HV.out, Vis.refl _ _ _ _ _, fun i hi => by omega⟩⟩
      case round =>
        obtain ⟨k, zs, hk, rfl, HD⟩ := hrel
        by_cases hlt : k < K
        · obtain ⟨b, rfl, hcb⟩ := HNB.out _ HD.out.va.map k (by rw [← HKE.out]; exact hlt)
          have hfn := HD.out.va.fn
          unfold vfn at hfn
          have hkb : (adj an).getD k 0 ∈ adj an := by
            rw [List.getD_eq_getElem?_getD, List.getElem?_eq_getElem (by rw [← HKE.out]; exact hlt)]
            exact List.getElem_mem _
          have hib := hin an _ hkb
          have HKB := Aside0.mk hkb
          have HIH := Aside0.mk (ih ((adj an).getD k 0) zs wr HD.out.va hib.1 hib.2 (Nat.le_trans HD.out.vis.negs HNG.out))
          obtain ⟨y, hy⟩ : ∃ y, y = (adj an).getD k 0 := ⟨_, rfl⟩
          rw [← hy] at hcb HIH HKB hib
          have HY := Lib.hid hy
          clear hkb hy
          have HKL := Lib.hid (show k < (adj an).length by rw [← HKE.out]; exact hlt)
          go_wp2_with (first | (go_at_call 26; refine HIH.out.mono ?_; rintro e w5 ⟨rfl, ho5, ys, hva5, hvis5, hlab5⟩; have H5 := Aside0.mk (HD.out.next hin hl0 HKL.out HY.out ho5 hva5 hvis5 hlab5); clear ho5 hva5 hvis5 hlab5))
          go_roundw
          case rel => exact ⟨k + 1, ys, by omega, by go_num, H5⟩
          case measure => simp [intOf]; omega
        · have hkK : k = K := by omega
          have HE := Aside0.mk (show Only (fun b _ => b = g) w wr ∧ ∃ ys, VA wr p q z g B r n l adj ys ∧ Vis adj n an least xs ys ∧ 0 ≤ lab ys an from by
            refine ⟨HO.out.trans HD.out.only, zs, HD.out.va, ?_⟩
            refine Vis.first HLEN.out (by omega) (by omega) HXN.out hl0 HD.out.vis (fun y hy => ?_)
            obtain ⟨i, hi, rfl⟩ := List.getElem_of_mem hy
            have := HD.out.done i (by rw [hkK, HKE.out]; exact hi)
            rwa [List.getD_eq_getElem?_getD, List.getElem?_eq_getElem hi] at this)
          clear hkK
          go_wp2
          go_end0
          exact ⟨rfl, HE.out⟩

end Go.Proofs.Ytghdeoeajbnfkaa.WSl
