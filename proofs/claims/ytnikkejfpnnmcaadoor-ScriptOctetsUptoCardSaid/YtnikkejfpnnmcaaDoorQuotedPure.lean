/- cornref1.quoted: what it reads, in plain Lean. -/
import Derived.Test.YtnikkejfpnnmcaaDoorHexErr
namespace Go.Proofs.YtnikkejfpnnmcaaDoor.Quo
set_option linter.unusedVariables false
set_option linter.unusedSimpArgs false
open Go.RowKit Go.Proofs.YtnikkejfpnnmcaaDoorW.PrintWords Go.Proofs.YtnikkejfpnnmcaaDoorW.PrintLast Go.Proofs.YtnikkejfpnnmcaaDoorW.PrintMore Go.Proofs.YtnikkejfpnnmcaaDoor.Bld

/-- What 'quoted' reads behind the first quote: the octets, and what follows the last quote. -/
def qd : List UInt8 → List UInt8 → Option (List UInt8 × List UInt8)
  | [], _ => none
  | c :: l, out =>
    if c = 34 then some (out, l)
    else if c ≠ 92 then qd l (out ++ [c])
    else match l with
      | [] => none
      | d :: l1 =>
        if d = 34 ∨ d = 92 then qd l1 (out ++ [d])
        else match l1 with
          | a :: b :: l2 => if d = 120 then (match hexRun [a, b] 0 with
            | some v => qd l2 (out ++ [UInt8.ofNat v.toNat])
            | none => none) else none
          | _ => none
termination_by l => l.length
decreasing_by all_goals (simp only [List.length_cons]; omega)

theorem qd_nil (out : List UInt8) : qd [] out = none := by rw [qd.eq_def]
theorem qd_end (l out : List UInt8) : qd (34 :: l) out = some (out, l) := by rw [qd.eq_def]; rfl
theorem qd_plain (c : UInt8) (l out : List UInt8) (h1 : c ≠ 34) (h2 : c ≠ 92) : qd (c :: l) out = qd l (out ++ [c]) := by rw [qd.eq_def]; dsimp only; rw [if_neg h1, if_pos h2]
theorem qd_slash (l out : List UInt8) : qd (92 :: l) out = (match l with
      | [] => none
      | d :: l1 =>
        if d = 34 ∨ d = 92 then qd l1 (out ++ [d])
        else match l1 with
          | a :: b :: l2 => if d = 120 then (match hexRun [a, b] 0 with
            | some v => qd l2 (out ++ [UInt8.ofNat v.toNat])
            | none => none) else none
          | _ => none) := by rw [qd.eq_def]; dsimp only; rw [if_neg (by decide), if_neg (by decide)]
theorem qd_last (out : List UInt8) : qd [92] out = none := by rw [qd_slash]
theorem qd_esc (d : UInt8) (l out : List UInt8) (h : d = 34 ∨ d = 92) : qd (92 :: d :: l) out = qd l (out ++ [d]) := by rw [qd_slash]; dsimp only; rw [if_pos h]
theorem qd_hex (a b : UInt8) (l out : List UInt8) (v : Int) (h : hexRun [a, b] 0 = some v) : qd (92 :: 120 :: a :: b :: l) out = qd l (out ++ [UInt8.ofNat v.toNat]) := by
  rw [qd_slash]; dsimp only; rw [if_neg (by decide), if_pos rfl, h]
theorem qd_hexBad (a b : UInt8) (l out : List UInt8) (h : hexRun [a, b] 0 = none) : qd (92 :: 120 :: a :: b :: l) out = none := by
  rw [qd_slash]; dsimp only; rw [if_neg (by decide), if_pos rfl, h]
theorem qd_bad (d : UInt8) (l out : List UInt8) (h1 : ¬ (d = 34 ∨ d = 92)) (h : d ≠ 120 ∨ l.length ≤ 1) : qd (92 :: d :: l) out = none := by
  rw [qd_slash]; dsimp only
  rw [if_neg h1]
  match l, h with
  | [], _ => rfl
  | [_], _ => rfl
  | a :: b :: l2, h =>
    rcases h with h | h
    · dsimp only; rw [if_neg h]
    · simp at h

theorem qd_quos (bs : List UInt8) : ∀ out, qd (bs.flatMap quo ++ [34]) out = some (out ++ bs, []) := by
  induction bs with
  | nil => intro out; rw [List.flatMap_nil, List.nil_append, qd_end]; simp
  | cons c cs ih =>
    intro out
    rw [List.flatMap_cons]
    by_cases h1 : c = 34 ∨ c = 92
    · have hq : quo c = [92, c] := by unfold quo; rw [if_pos h1]
      rw [hq]
      show qd (92 :: c :: (cs.flatMap quo ++ [34])) out = _
      rw [qd_esc _ _ _ h1, ih]; simp
    · by_cases h2 : 32 ≤ c.toNat ∧ c.toNat ≤ 126
      · have hq : quo c = [c] := by unfold quo; rw [if_neg h1, if_pos h2]
        rw [hq]
        show qd (c :: (cs.flatMap quo ++ [34])) out = _
        rw [qd_plain _ _ _ (fun e => h1 (.inl e)) (fun e => h1 (.inr e)), ih]; simp
      · have hq : quo c = [92, 120, hexd (c.toNat / 16), hexd (c.toNat % 16)] := by unfold quo; rw [if_neg h1, if_neg h2]
        have hc := UInt8.toNat_lt c
        rw [hq]
        show qd (92 :: 120 :: hexd (c.toNat / 16) :: hexd (c.toNat % 16) :: (cs.flatMap quo ++ [34])) out = _
        have hv : (UInt8.ofNat ((c.toNat / 16 * 16 + c.toNat % 16 : Nat) : Int).toNat) = c := by
          rw [Int.toNat_natCast, Nat.div_add_mod']; simp
        rw [qd_hex _ _ _ _ _ (hexRun_two (c.toNat / 16) (c.toNat % 16) (by omega) (by omega)), hv, ih]; simp

/-- The values that are read fit in an octet. -/
theorem hexRun_le (a b : UInt8) (v : Int) (h : hexRun [a, b] 0 = some v) : 0 ≤ v ∧ v ≤ 255 := by
  have key : ∀ c : UInt8, hexOk c = true → 0 ≤ hexV c ∧ hexV c ≤ 15 := by
    intro c hc
    unfold hexOk at hc
    unfold hexV
    by_cases hd : 48 ≤ c.toNat ∧ c.toNat ≤ 57
    · rw [if_pos hd]; omega
    · rw [if_neg hd]
      rw [decide_eq_false hd, Bool.false_or, decide_eq_true_iff] at hc
      omega
  simp only [hexRun] at h
  by_cases h1 : hexOk a = true
  · by_cases h2 : hexOk b = true
    · rw [if_pos h1, if_pos h2] at h
      have k1 := key a h1
      have k2 := key b h2
      have := Option.some.inj h
      omega
    · rw [if_pos h1, if_neg h2] at h; cases h
  · rw [if_neg h1] at h; cases h
end Go.Proofs.YtnikkejfpnnmcaaDoor.Quo
