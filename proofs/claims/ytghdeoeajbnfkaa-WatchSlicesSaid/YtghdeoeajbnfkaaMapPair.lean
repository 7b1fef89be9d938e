/- A map whose keys are pairs of numbers ([2]int), its values true: what a store does. -/
import Derived.Test.YtghdeoeajbnfkaaProg
import Derived.MapKept
import Derived.Maps.Own
import Derived.DeepKeys3
import Derived.KernelRfl
namespace Go.Proofs.Ytghdeoeajbnfkaa.MapPair
open Go Go.WideShapes

def key (a b : Int) : Value := .agg #[.int .i64 a, .int .i64 b]

/-- Block r of w is a map that has these keys, in this order. -/
def PairMap (w : World) (r : Nat) (l : List (Int × Int)) : Prop :=
  ∃ es clock, w.heap[r]? = some (.map es clock) ∧ es.toList.map (fun e => (e.key, e.val)) = l.map (fun x => (key x.1 x.2, Value.bool true))

theorem PairMap.of_heap {w w1 : World} {r : Nat} {l : List (Int × Int)} (h : PairMap w r l) (hh : w1.heap[r]? = w.heap[r]?) : PairMap w1 r l := by
  obtain ⟨es, c, hb, hl⟩ := h
  exact ⟨es, c, hh.trans hb, hl⟩
theorem PairMap.lt {w : World} {r : Nat} {l : List (Int × Int)} (h : PairMap w r l) : r < w.heap.size := by
  obtain ⟨es, c, hb, hl⟩ := h
  exact (Array.getElem?_eq_some_iff.1 hb).1
theorem PairMap.made (w : World) : PairMap (w.alloc (.map #[] 0)) w.heap.size [] := ⟨#[], 0, (MapKept.heap_alloc w _).1, rfl⟩

theorem keyT : Try.prog.keyTypeAt 2 49 = true := by kernel_rfl
theorem cells2 : Try.prog.cellsOf 49 = 2 := by kernel_rfl
theorem cells1 : Try.prog.cellsOf 3 = 1 := by kernel_rfl

theorem keyLits_key (a b : Int) (ha : (Lit.int .i64 a).wf = true) (hb : (Lit.int .i64 b).wf = true) : Try.prog.keyLits 2 49 (key a b).cells.toList = some [.int .i64 a, .int .i64 b] := by
  have h1 : ∀ x : Int, (Lit.int .i64 x).wf = true → Try.prog.keyLits 1 3 [.int .i64 x] = some [.int .i64 x] := fun x hx => by
    unfold Program.keyLits
    rw [Try.underlying3]
    simp [hx]
  unfold Program.keyLits
  rw [Try.underlying49]
  simp only [key, Value.cells, cells2, cells1]
  have hr : List.range 2 = [0, 1] := rfl
  simp [hr, h1 a ha, h1 b hb]

theorem key_formed (a b : Int) : (key a b).formed Try.prog 49 = true := by
  unfold key Value.formed
  rw [Try.underlying49]
  simp [cells2]

theorem key_eq (w : World) (a b c d : Int) (ha : (Lit.int .i64 a).wf = true) (hb : (Lit.int .i64 b).wf = true) (hc : (Lit.int .i64 c).wf = true) (hd : (Lit.int .i64 d).wf = true) :
    (Op.equal 49 (key a b) (key c d)).run Try.prog w = .ok (decide ((a, b) = (c, d))) w := by
  obtain ⟨r, hr, hiff⟩ := run_equalIn_deep (P := Try.prog) 9998 2 49 keyT w 2 2 (key a b) (key c d) _ _ (key_formed a b) (key_formed c d) (keyLits_key a b ha hb) (keyLits_key c d hc hd)
  have : r = decide ((a, b) = (c, d)) := by
    rw [Bool.eq_iff_iff, hiff, decide_eq_true_iff]
    simp
  rw [← this]
  exact hr

theorem key_check (w : World) (em : Bool) (a b : Int) (ha : (Lit.int .i64 a).wf = true) (hb : (Lit.int .i64 b).wf = true) : (Instr.checkKey em 10000 49 (key a b)).run Try.prog w = .ok () w :=
  run_checkKey_deep em 9998 2 49 keyT w 2 (key a b) _ (key_formed a b) (keyLits_key a b ha hb)

/-- Every key is of numbers that fit. -/
def Fits (l : List (Int × Int)) : Prop := ∀ x ∈ l, (Lit.int .i64 x.1).wf = true ∧ (Lit.int .i64 x.2).wf = true

theorem find_asking (w : World) (a b : Int) (ha : (Lit.int .i64 a).wf = true) (hb : (Lit.int .i64 b).wf = true) : ∀ (es : List MapEntry) (l : List (Int × Int)) (i : Nat), Fits l → es.map (fun e => (e.key, e.val)) = l.map (fun x => (key x.1 x.2, Value.bool true)) →
    (a ∉ l.map Prod.fst ∨ (a, b) ∉ l) ∧ (Instr.findAsking 49 (key a b) es i).run Try.prog w = .ok none w ∧ (a, b) ∉ l ∨
    ∃ j e, (Instr.findAsking 49 (key a b) es i).run Try.prog w = .ok (some (i + j, .bool true)) w ∧ es[j]? = some e ∧ e.key = key a b ∧ e.val = .bool true ∧ (a, b) ∈ l
  | [], [], _, _, _ => .inl ⟨.inr (by simp), by simp [Instr.findAsking], by simp⟩
  | [], _ :: _, _, _, h => by simp at h
  | _ :: _, [], _, _, h => by simp at h
  | e :: es, x :: l, i, hf, h => by
    simp only [List.map_cons, List.cons.injEq, Prod.mk.injEq] at h
    obtain ⟨⟨hk, hv⟩, ht⟩ := h
    have hfx := hf x List.mem_cons_self
    have he := key_eq w a b x.1 x.2 ha hb hfx.1 hfx.2
    by_cases hx : (a, b) = x
    · subst hx
      refine .inr ⟨0, e, ?_, rfl, hk, hv, List.mem_cons_self⟩
      unfold Instr.findAsking
      simp only [Sem.run_bind, hk, he, Result.andThen_ok, decide_true, if_true, Sem.run_pure, hv, Nat.add_zero]
    · have hd : decide ((a, b) = (x.1, x.2)) = false := decide_eq_false hx
      have hrec : (Instr.findAsking 49 (key a b) (e :: es) i).run Try.prog w = (Instr.findAsking 49 (key a b) es (i + 1)).run Try.prog w := by
        conv => lhs; unfold Instr.findAsking
        rw [hd] at he
        simp only [Sem.run_bind, hk, he, Result.andThen_ok, Bool.false_eq_true, if_false]
      rcases find_asking w a b ha hb es l (i + 1) (fun y hy => hf y (List.mem_cons_of_mem _ hy)) ht with ⟨_, h2, h3⟩ | ⟨j, e', h2, h3, h4, h5, h6⟩
      · refine .inl ⟨.inr ?_, by rw [hrec]; exact h2, ?_⟩ <;>
        · intro hm
          rcases List.mem_cons.1 hm with hm | hm
          · exact hx hm
          · exact h3 hm
      · exact .inr ⟨j + 1, e', by rw [hrec, h2]; congr 3; omega, by simpa using h3, h4, h5, List.mem_cons_of_mem _ h6⟩

theorem modify_same : ∀ (es : List MapEntry) (j : Nat) (e : MapEntry) (k v : Value), es[j]? = some e → e.key = k → e.val = v → (es.modify j fun e => { e with key := k, val := v }) = es
  | [], j, _, _, _, h, _, _ => by simp at h
  | x :: es, 0, e, k, v, h, hk, hv => by
    simp at h
    subst h
    subst hk hv
    rfl
  | x :: es, j + 1, e, k, v, h, hk, hv => by
    simp at h
    rw [List.modify_succ_cons, modify_same es j e k v h hk hv]

/-- One key more; or the one that is there. -/
def pput (l : List (Int × Int)) (a b : Int) : List (Int × Int) := if (a, b) ∈ l then l else l ++ [(a, b)]

theorem stays (w : World) (a b : Int) : (Instr.keyThatStays (key a b) (key a b)).run Try.prog w = .ok (key a b) w := by
  unfold Instr.keyThatStays
  have : Instr.sameBits 10000 (key a b) (key a b) = true := by
    show Instr.sameBits (9999 + 1) _ _ = true
    simp [key, Instr.sameBits]
  rw [if_pos this]
  simp

theorem run_update {w : World} {r : Nat} {l : List (Int × Int)} (h : PairMap w r l) (hf : Fits l) (a b : Int) (ha : (Lit.int .i64 a).wf = true) (hb : (Lit.int .i64 b).wf = true) :
    ∃ w1, (Instr.mapUpdate 45 (.map (some r)) (key a b) (.bool true)).run Try.prog w = .ok () w1 ∧ PairMap w1 r (pput l a b) ∧ w.grownBy w1 (some r) ∧ w1.heap.size = w.heap.size := by
  obtain ⟨es, cl, hbk, hl⟩ := h
  have hc := key_check w false a b ha hb
  have hfe := run_findKey_eq (P := Try.prog) (w := w) (k := 49) (by rw [Try.underlying49]) (key a b) es.toList
  rcases find_asking w a b ha hb es.toList l 0 hf hl with ⟨_, h2, h3⟩ | ⟨j, e, h2, h3, h4, h5, h6⟩
  · rw [h2] at hfe
    refine ⟨{ w with heap := w.heap.setIfInBounds r (.map (es.push { key := key a b, val := .bool true, born := cl }) (cl + 1)) }, ?_, ?_, ?_, ?_⟩
    · simp [Instr.mapUpdate, run_underlying Try.underlying45, MapKept.run_getObj_map hbk, hfe, hc, MapKept.run_setObj_map _ hbk, Result.andThen]
    · refine ⟨_, _, (MapKept.heap_set hbk).1, ?_⟩
      unfold pput
      rw [if_neg h3]
      simp [hl]
    · exact ⟨rfl, rfl, rfl, by simp, fun i hi hne => (MapKept.heap_set hbk).2 i (fun e => hne (by rw [e]))⟩
    · simp
  · rw [h2, Nat.zero_add] at hfe
    have hes : es[j]? = some e := by rw [← h3]; simp
    refine ⟨{ w with heap := w.heap.setIfInBounds r (.map (es.modify j fun e => { e with key := key a b, val := .bool true }) cl) }, ?_, ?_, ?_, ?_⟩
    · simp [Instr.mapUpdate, run_underlying Try.underlying45, MapKept.run_getObj_map hbk, hfe, hc, hes, h4, stays w a b, MapKept.run_setObj_map _ hbk, Result.andThen]
    · refine ⟨_, _, (MapKept.heap_set hbk).1, ?_⟩
      unfold pput
      rw [if_pos h6, Array.toList_modify, modify_same _ j e _ _ h3 h4 h5]
      exact hl
    · exact ⟨rfl, rfl, rfl, by simp, fun i hi hne => (MapKept.heap_set hbk).2 i (fun e => hne (by rw [e]))⟩
    · simp

theorem Fits.put {l : List (Int × Int)} (h : Fits l) (a b : Int) (ha : (Lit.int .i64 a).wf = true) (hb : (Lit.int .i64 b).wf = true) : Fits (pput l a b) := by
  unfold pput
  split
  · exact h
  · intro x hx
    rcases List.mem_append.1 hx with hx | hx
    · exact h x hx
    · simp at hx
      subst hx
      exact ⟨ha, hb⟩

/-- len of the map. -/
theorem run_len {w : World} {r : Nat} {l : List (Int × Int)} (h : PairMap w r l) (ty : TypeId) : (Builtin.len_ #[45] ty #[.map (some r)]).run Try.prog w = .ok (.int .i64 l.length) w := by
  obtain ⟨es, cl, hbk, hl⟩ := h
  have hlen : es.size = l.length := by
    have := congrArg List.length hl
    simpa using this
  simp [Builtin.len_, run_underlying Try.underlying45, MapKept.run_getObj_map hbk, Result.andThen, hlen, goInt]

end Go.Proofs.Ytghdeoeajbnfkaa.MapPair
