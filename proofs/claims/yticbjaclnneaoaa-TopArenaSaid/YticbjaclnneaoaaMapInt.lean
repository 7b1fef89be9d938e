/- Maps with whole numbers as keys: what a look-up, a store and a delete do, over any program. -/
import Derived.Maps.Own
import Derived.Maps.OwnOps
import Derived.Maps.OwnSet
namespace Go.Proofs.Yticbjaclnneaoaa.MapInt
open Go Go.ChangeMaps Go.MapKept

/-- Block r of w is a map that has these keys and values, in this order. -/
def IntMap (w : World) (r : Nat) (l : List (Int × Value)) : Prop :=
  ∃ es clock, w.heap[r]? = some (.map es clock) ∧ es.toList.map (fun e => (e.key, e.val)) = l.map (fun x => (Value.int .i64 x.1, x.2))

def mget : List (Int × Value) → Int → Option Value
  | [], _ => none
  | (a, b) :: l, k => if k = a then some b else mget l k
def mput : List (Int × Value) → Int → Value → List (Int × Value)
  | [], k, v => [(k, v)]
  | (a, b) :: l, k, v => if k = a then (k, v) :: l else (a, b) :: mput l k v
def mdel : List (Int × Value) → Int → List (Int × Value)
  | [], _ => []
  | (a, b) :: l, k => if k = a then l else (a, b) :: mdel l k

theorem IntMap.of_heap {w w1 : World} {r : Nat} {l : List (Int × Value)} (h : IntMap w r l) (hh : w1.heap[r]? = w.heap[r]?) : IntMap w1 r l := by
  obtain ⟨es, c, hb, hl⟩ := h
  exact ⟨es, c, hh.trans hb, hl⟩
theorem IntMap.lt {w : World} {r : Nat} {l : List (Int × Value)} (h : IntMap w r l) : r < w.heap.size := by
  obtain ⟨es, c, hb, hl⟩ := h
  exact (Array.getElem?_eq_some_iff.1 hb).1
theorem IntMap.made (w : World) : IntMap (w.alloc (.map #[] 0)) w.heap.size [] := ⟨#[], 0, (MapKept.heap_alloc w _).1, rfl⟩

theorem find_none : ∀ (es : List MapEntry) (l : List (Int × Value)) (i : Nat) (k : Int), es.map (fun e => (e.key, e.val)) = l.map (fun x => (Value.int .i64 x.1, x.2)) →
    mget l k = none → Instr.findNow (.int .i64) (.int .i64 k) es i = some none
  | [], _, _, _, _, _ => rfl
  | e :: es, [], _, _, h, _ => by simp at h
  | e :: es, (a, b) :: l, i, k, h, hg => by
    simp only [List.map_cons, List.cons.injEq, Prod.mk.injEq] at h
    obtain ⟨⟨hk, _⟩, ht⟩ := h
    unfold mget at hg
    by_cases hka : k = a
    · rw [if_pos hka] at hg; cases hg
    · rw [if_neg hka] at hg
      unfold Instr.findNow
      have : (k == a) = false := by simp [hka]
      simp only [hk, Instr.sameNow, if_true, this]
      exact find_none es l (i + 1) k ht hg

theorem find_some : ∀ (es : List MapEntry) (l : List (Int × Value)) (i : Nat) (k : Int) (v : Value), es.map (fun e => (e.key, e.val)) = l.map (fun x => (Value.int .i64 x.1, x.2)) →
    mget l k = some v → ∃ j e, Instr.findNow (.int .i64) (.int .i64 k) es i = some (some (i + j, v)) ∧ es[j]? = some e ∧ e.key = .int .i64 k ∧ e.val = v ∧
      ∀ x : Value, (es.modify j fun e => { e with val := x }).map (fun e => (e.key, e.val)) = (mput l k x).map (fun x => (Value.int .i64 x.1, x.2))
  | [], [], _, _, _, _, hg => by cases hg
  | [], _ :: _, _, _, _, h, _ => by simp at h
  | e :: es, [], _, _, _, h, _ => by simp at h
  | e :: es, (a, b) :: l, i, k, v, h, hg => by
    simp only [List.map_cons, List.cons.injEq, Prod.mk.injEq] at h
    obtain ⟨⟨hk, hv⟩, ht⟩ := h
    unfold mget at hg
    by_cases hka : k = a
    · rw [if_pos hka] at hg
      cases hg
      refine ⟨0, e, ?_, rfl, by rw [hk, hka], hv, fun x => ?_⟩
      · unfold Instr.findNow
        simp [hk, Instr.sameNow, hka, hv]
      · simp [mput, hka, hk, ht]
    · rw [if_neg hka] at hg
      obtain ⟨j, e', h1, h2, h3, h4, h5⟩ := find_some es l (i + 1) k v ht hg
      refine ⟨j + 1, e', ?_, by simpa using h2, h3, h4, fun x => ?_⟩
      · unfold Instr.findNow
        have : (k == a) = false := by simp [hka]
        simp only [hk, Instr.sameNow, if_true, this, h1]
        congr 3; omega
      · simp [mput, hka, hk, hv, h5 x]

theorem mput_new : ∀ (l : List (Int × Value)) (k : Int) (v : Value), mget l k = none → mput l k v = l ++ [(k, v)]
  | [], _, _, _ => rfl
  | (a, b) :: l, k, v, h => by
    unfold mget at h
    by_cases hka : k = a
    · rw [if_pos hka] at h; cases h
    · rw [if_neg hka] at h
      simp [mput, hka, mput_new l k v h]

section
variable {P : Program} {t kt et : TypeId} (ht : P.underlying t = some (.map kt et)) (hk : P.underlying kt = some (.int .i64))
include ht hk

theorem run_lookup_some {w : World} {r : Nat} {l : List (Int × Value)} (h : IntMap w r l) {k : Int} {v : Value} (hg : mget l k = some v) (c : Bool) :
    (Instr.lookup t (.map (some r)) (.int .i64 k) c).run P w = .ok (if c then .tuple #[v, .bool true] else v) w := by
  obtain ⟨es, cl, hb, hl⟩ := h
  obtain ⟨j, e, h1, _⟩ := find_some es.toList l 0 k v hl hg
  simp only [Nat.zero_add] at h1
  have hf := MapKept.run_findKey (w := w) hk h1
  have hc := MapKept.run_checkKey (w := w) (k := .int .i64 k) hk (by simp [IsKey]) es.isEmpty 9999
  simp [Instr.lookup, run_underlying ht, MapKept.run_getObj_map hb, hf, hc, Result.andThen]

theorem run_lookup_none {w : World} {r : Nat} {l : List (Int × Value)} (h : IntMap w r l) {k : Int} (hg : mget l k = none) {z : Value} (hz : (zeroValue et).run P w = .ok z w) (c : Bool) :
    (Instr.lookup t (.map (some r)) (.int .i64 k) c).run P w = .ok (if c then .tuple #[z, .bool false] else z) w := by
  obtain ⟨es, cl, hb, hl⟩ := h
  have h1 := find_none es.toList l 0 k hl hg
  have hf := MapKept.run_findKey (w := w) hk h1
  have hc := MapKept.run_checkKey (w := w) (k := .int .i64 k) hk (by simp [IsKey]) es.isEmpty 9999
  simp [Instr.lookup, run_underlying ht, MapKept.run_getObj_map hb, hf, hc, hz, Result.andThen]

theorem run_update {w : World} {r : Nat} {l : List (Int × Value)} (h : IntMap w r l) (k : Int) (v : Value) :
    ∃ w1, (Instr.mapUpdate t (.map (some r)) (.int .i64 k) v).run P w = .ok () w1 ∧ IntMap w1 r (mput l k v) ∧ w.grownBy w1 (some r) ∧ w1.heap.size = w.heap.size := by
  obtain ⟨es, cl, hb, hl⟩ := h
  have hc := MapKept.run_checkKey (w := w) (k := .int .i64 k) hk (by simp [IsKey]) false 9999
  cases hg : mget l k with
  | none =>
    have hf := MapKept.run_findKey (w := w) hk (find_none es.toList l 0 k hl hg)
    refine ⟨{ w with heap := w.heap.setIfInBounds r (.map (es.push { key := .int .i64 k, val := v, born := cl }) (cl + 1)) }, ?_, ?_, ?_, ?_⟩
    · simp [Instr.mapUpdate, run_underlying ht, MapKept.run_getObj_map hb, hf, hc, MapKept.run_setObj_map _ hb, Result.andThen]
    · exact ⟨_, _, (MapKept.heap_set hb).1, by rw [mput_new l k v hg]; simp [hl]⟩
    · exact ⟨rfl, rfl, rfl, by simp, fun i hi hne => (MapKept.heap_set hb).2 i (fun e => hne (by rw [e]))⟩
    · simp
  | some v0 =>
    obtain ⟨j, e, h1, h2, h3, h4, h5⟩ := find_some es.toList l 0 k v0 hl hg
    simp only [Nat.zero_add] at h1
    have hf := MapKept.run_findKey (w := w) hk h1
    have hes : es[j]? = some e := by rw [← h2]; simp
    have hsame : (Instr.keyThatStays (.int .i64 k) (.int .i64 k)).run P w = .ok (.int .i64 k) w := by
      unfold Instr.keyThatStays
      rw [MapKept.sameBits_self (d := .int .i64) (by simp [IsKey])]
      simp
    refine ⟨{ w with heap := w.heap.setIfInBounds r (.map (es.modify j fun e => { e with key := .int .i64 k, val := v }) cl) }, ?_, ?_, ?_, ?_⟩
    · simp [Instr.mapUpdate, run_underlying ht, MapKept.run_getObj_map hb, hf, hc, hes, h3, hsame, MapKept.run_setObj_map _ hb, Result.andThen]
    · refine ⟨_, _, (MapKept.heap_set hb).1, ?_⟩
      rw [← h5 v]
      have : (es.modify j fun e => { e with key := .int .i64 k, val := v }).toList = es.toList.modify j (fun e => { e with val := v }) := by
        rw [Array.toList_modify]
        apply List.ext_getElem?
        intro i
        rw [List.getElem?_modify, List.getElem?_modify]
        by_cases hij : j = i
        · subst hij
          rw [h2]; simp [h3]
        · simp [hij]
      rw [this]
    · exact ⟨rfl, rfl, rfl, by simp, fun i hi hne => (MapKept.heap_set hb).2 i (fun e => hne (by rw [e]))⟩
    · simp
end

section
variable {P : Program} {ops : Array Oper} {rest : List Oper} {o : Oper} {a : Act} {Q : Exit → Act → World → Prop}
theorem wp_lookup_some (w : World) (hg : o.guard = none) (m x : Operand) (t : TypeId) (c : Bool) (hop : o.op = Op.lookup t m x c) (kt et : TypeId) (ht : P.underlying t = some (.map kt et)) (hk : P.underlying kt = some (.int .i64))
    (r : Nat) (l : List (Int × Value)) (hm : a.eval m = .map (some r)) (h : IntMap w r l) (k : Int) (hx : a.eval x = .int .i64 k) (v : Value) (hv : mget l k = some v)
    (hK : wpList P ops Q rest (a.put o.dst (if c then .tuple #[v, .bool true] else v)) w) : wpList P ops Q (o :: rest) a w := by
  refine wpList_plain hg fun K' hK' => ?_
  unfold Oper.wp
  simp [execOp, hop, hm, hx, run_lookup_some ht hk h hv c, Result.andThen]
  exact hK' _ _ hK
theorem wp_lookup_none (w : World) (hg : o.guard = none) (m x : Operand) (t : TypeId) (c : Bool) (hop : o.op = Op.lookup t m x c) (kt et : TypeId) (ht : P.underlying t = some (.map kt et)) (hk : P.underlying kt = some (.int .i64))
    (r : Nat) (l : List (Int × Value)) (hm : a.eval m = .map (some r)) (h : IntMap w r l) (k : Int) (hx : a.eval x = .int .i64 k) (hv : mget l k = none) (z : Value) (hz : (zeroValue et).run P w = .ok z w)
    (hK : wpList P ops Q rest (a.put o.dst (if c then .tuple #[z, .bool false] else z)) w) : wpList P ops Q (o :: rest) a w := by
  refine wpList_plain hg fun K' hK' => ?_
  unfold Oper.wp
  simp [execOp, hop, hm, hx, run_lookup_none ht hk h hv hz c, Result.andThen]
  exact hK' _ _ hK
theorem wp_update (w : World) (hg : o.guard = none) (m x v : Operand) (t : TypeId) (hop : o.op = Op.mapUpdate t m x v) (kt et : TypeId) (ht : P.underlying t = some (.map kt et)) (hk : P.underlying kt = some (.int .i64))
    (r : Nat) (l : List (Int × Value)) (hm : a.eval m = .map (some r)) (h : IntMap w r l) (k : Int) (hx : a.eval x = .int .i64 k) (u : Value) (hv : a.eval v = u)
    (hK : ∀ w1, IntMap w1 r (mput l k u) → w.grownBy w1 (some r) → w1.heap.size = w.heap.size → wpList P ops Q rest (a.put o.dst undef) w1) : wpList P ops Q (o :: rest) a w := by
  refine wpList_plain hg fun K' hK' => ?_
  obtain ⟨w1, hrun, h1, h2, h3⟩ := run_update ht hk h k u
  unfold Oper.wp
  simp [execOp, hop, hm, hx, hv, hrun, Result.andThen]
  exact hK' _ _ (hK w1 h1 h2 h3)
end
end Go.Proofs.Yticbjaclnneaoaa.MapInt
