/- A region that draws its order, in the round of a range over a function: walked as everywhere. -/
import Derived.Test.YtmellidlnggldaaQChunk
namespace Go.Proofs.Ytmellidlnggldaa.Ring
set_option linter.unusedVariables false
open Go.RowKit

theorem wpOpIn_of {P : Program} {ops : Array Oper} {Q : Exit → Act → World → Prop} (l n : Nat) (hQ : ¬ LetsOut Q) {i : Nat} (hd : ∀ o, ops[i]? = some o → (∀ c, o.op ≠ .defer c)) {K : Act → World → Prop} {a : Act} {w : World} (h : wpOp P ops Q i K a w) : wpOpIn (Fence.wide.inRound l) n P ops Q i K a w := by
  unfold wpOpIn
  unfold wpOp at h
  cases ho : ops[i]? with
  | none => simpa [ho] using h
  | some o =>
    simp only [ho] at h ⊢
    split
    · rename_i hw
      rw [if_pos hw] at h
      rcases h with h | ⟨_, h⟩
      · refine ⟨fun _ _ => trivial, ?_⟩
        rw [Oper.semAt_eq _ _ _ (hd o ho)]
        unfold Oper.wp at h
        generalize (execOp a.eval o).run P w = r at h ⊢
        cases r with
        | ok x w' =>
          cases x with
          | value v => exact h
          | skip => exact h
          | defer d => exact h
          | enter f args => exact ⟨fun h => (by cases h), CallsIn.inRound l (callsIn_wide.2 h)⟩
          | row row args => exact ⟨fun h => (by cases h), fun c cs _ => let ⟨v, w', r, s⟩ := h c cs; ⟨v, w', r, stepsIn_wide.2 s⟩⟩
          | _ => exact h.elim
        | halt x w' => cases x <;> first | exact h | exact h.elim
      · exact absurd h hQ
    · rename_i hw
      rw [if_neg hw] at h
      exact ⟨fun _ _ => trivial, h⟩

theorem wpAnyIn_of {P : Program} {ops : Array Oper} {Q : Exit → Act → World → Prop} {md : Region.Mode} (l n : Nat) (hQ : ¬ LetsOut Q) (hd : ∀ (i : Nat) o, ops[i]? = some o → (∀ c, o.op ≠ .defer c)) :
    ∀ (fuel : Nat) (listed : Array Bool) (a : Act) (w : World), wpAny P md ops Q fuel listed a w → wpAnyIn (Fence.wide.inRound l) n P md ops Q fuel listed a w
  | 0, _, _, _, h => h
  | fuel + 1, _, _, _, h => ⟨h.1, fun i hi => wpOpIn_of l n hQ (hd i) (wpOp_mono (fun a' w' h' => wpAnyIn_of l n hQ hd fuel _ a' w' h') (h.2 i hi))⟩

def noDefer (ops : Array Oper) : Bool := ops.all fun o => match o.op with | .defer _ => false | _ => true
theorem noDefer_spec {ops : Array Oper} (h : noDefer ops = true) (i : Nat) (o : Oper) (ho : ops[i]? = some o) : ∀ c, o.op ≠ .defer c := by
  intro c e
  unfold noDefer at h
  rw [Array.all_eq_true] at h
  obtain ⟨hi, he⟩ := Array.getElem?_eq_some_iff.1 ho
  have := h i hi
  rw [he, e] at this
  cases this

/-- A region that draws, in a round; S holds all through it. -/
theorem wpIn_round_held {P : Program} {ops : Array Oper} {Q : Exit → Act → World → Prop} {S : World → Prop} {id : Nat} {a : Act} {w : World} (l n : Nat) (hm : P.follows .mixedOrders = true) (hd : noDefer ops = true) (hQ : ¬ LetsOut Q) (hS : S w.drew)
    (h : S w.drew → wpAnyH P .any ops Q S ops.size (Array.replicate ops.size false) a w.drew) : (Code.region id ops true).wpIn (Fence.wide.inRound l) n P Q a w :=
  wpIn_region_any hm (wpAnyIn_of l n hQ (noDefer_spec hd) _ _ _ _ (wpAny_of_held _ _ _ _ (h hS)))

/-- What a body must achieve that may leave one mark of a range over a function behind. -/
def markPost (P : Program) (fn : Func) (R : Ending → World → Prop) : Exit → Act → World → Prop
  | .normal, a, w => bodyPost P fn R .normal a w ∨ ∃ D, a.defers = [{ target := .collected D, args := #[] }] ∧ w.heap[D]? = some (.deferred (some [])) ∧ ∃ v, (results fn a.tmps).run P (w.putObj D (.deferred none)) = .ok v (w.putObj D (.deferred none)) ∧ R (.returned v) (w.putObj D (.deferred none))
  | .ret, a, w => bodyPost P fn R .ret a w ∨ ∃ D, a.defers = [{ target := .collected D, args := #[] }] ∧ w.heap[D]? = some (.deferred (some [])) ∧ ∃ v, (results fn a.tmps).run P (w.putObj D (.deferred none)) = .ok v (w.putObj D (.deferred none)) ∧ R (.returned v) (w.putObj D (.deferred none))
  | .panic ch, a, w => bodyPost P fn R (.panic ch) a w
  | .outgrown, a, w => bodyPost P fn R .outgrown a w
  | .exit id, a, w => bodyPost P fn R (.exit id) a w
  | .goto l, a, w => bodyPost P fn R (.goto l) a w
theorem markPost_of {P : Program} {fn : Func} {R : Ending → World → Prop} {e : Exit} {a : Act} {w : World} (h : bodyPost P fn R e a w) : markPost P fn R e a w := by
  cases e with
  | normal => exact .inl h
  | ret => exact .inl h
  | panic ch => exact h
  | outgrown => exact h
  | exit id => exact h
  | goto l => exact h

theorem calls_of_wp_mark {P : Program} {f : FuncId} {fn : Func} {c : Code} {args : Array Value} {w : World} {R : Ending → World → Prop} (hf : P.funcs[f]? = some fn) (hb : fn.body = some c)
    (h : c.wp P (markPost P fn R) { tmps := args ++ Array.replicate (fn.ntmps - args.size) undef, defers := [] } w) : Calls P f args w R := by
  refine (callsIn_wide (n := 3)).1 (callsIn_of_wp_marks hf hb trivial (wpIn_mono (wpIn_wide.2 h) ?_) rfl)
  intro e a w' h
  have two : (∃ D, a.defers = [{ target := .collected D, args := #[] }] ∧ w'.heap[D]? = some (.deferred (some [])) ∧ ∃ v, (results fn a.tmps).run P (w'.putObj D (.deferred none)) = .ok v (w'.putObj D (.deferred none)) ∧ R (.returned v) (w'.putObj D (.deferred none))) → LeavesInM Fence.wide 3 P fn a.tmps R a.defers .returning w' := by
    rintro ⟨D, h1, h2, v, h3, h4⟩
    rw [h1]
    exact ⟨by simp, .inl ⟨D, _, rfl, run_takeDeferred h2, v, h3, h4⟩⟩
  cases e with
  | normal =>
    rcases h with ⟨h1, h2⟩ | h
    · show LeavesInM _ _ _ _ _ _ a.defers _ _; rw [h1]; exact h2
    · exact two h
  | ret =>
    rcases h with ⟨h1, h2⟩ | h
    · show LeavesInM _ _ _ _ _ _ a.defers _ _; rw [h1]; exact h2
    · exact two h
  | panic ch => obtain ⟨h1, h2⟩ := h; show LeavesInM _ _ _ _ _ _ a.defers _ _; rw [h1]; exact h2
  | outgrown => exact h
  | exit id => exact h.elim
  | goto l => exact h.elim
end Go.Proofs.Ytmellidlnggldaa.Ring
