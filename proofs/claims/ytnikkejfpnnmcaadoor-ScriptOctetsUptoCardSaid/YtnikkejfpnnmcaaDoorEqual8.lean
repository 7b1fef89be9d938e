/- slices.Equal of two slices of octets that hold the same. -/
import Derived.Test.YtnikkejfpnnmcaaDoorOctets
namespace Go.Proofs.YtnikkejfpnnmcaaDoor.Quo
set_option linter.unusedVariables false
set_option linter.unusedSimpArgs false
open Go.RowKit Go.Proofs.YtnikkejfpnnmcaaDoorW.PrintWords Go.Proofs.YtnikkejfpnnmcaaDoorW.PrintLast Go.Proofs.YtnikkejfpnnmcaaDoorW.PrintMore Go.Proofs.YtnikkejfpnnmcaaDoor.Bld

set_option maxHeartbeats 2000000 in
set_option maxRecDepth 100000 in
theorem equal8 (A0 A1 : Option Addr) (c0 c1 n : Nat) (xs : List Int) (w : World) (h0 : ReadsInt w .u8 A0 n xs) (h1 : ReadsInt w .u8 A1 n xs) (hx : n ≤ 1000000000) :
    Calls Tryd.prog 16 #[.slice A0 n c0, .slice A1 n c1] w fun e w' => e = .returned (.bool true) ∧ Below w.heap.size w w' := by
  have H0 := Aside0.mk h0
  have H1 := Aside0.mk h1
  clear h0 h1
  go_enter Tryd.func16, Tryd.ntmps16
  go_wp2
  go_loopw [5, 13] (fun _ i wr => ∃ k : Nat, k ≤ n ∧ i = .int .i64 k ∧ Aside0 (Below w.heap.size w wr)) (fun _ i _ => n - (intOf i).toNat)
  case atStart => exact ⟨0, Nat.zero_le _, rfl, ⟨Below.refl _ _⟩⟩
  case round =>
    obtain ⟨k, hk, rfl, HB⟩ := hrel
    by_cases hlt : k < n
    · obtain ⟨a0, rfl, c0⟩ := (H0.out.below HB.out).at_ k (by omega) (by omega)
      obtain ⟨a1, rfl, c1⟩ := (H1.out.below HB.out).at_ k (by omega) (by omega)
      rw [Int.toNat_natCast] at c0 c1
      go_wp2
      go_quiet (fail)
      go_wp2
      go_roundw
      case rel => exact ⟨k + 1, by omega, by go_num, ⟨pw_below_drewN HB.out _⟩⟩
      case measure => simp [intOf]; omega
    · go_wp2
      go_ret
      exact ⟨rfl, HB.out⟩
end Go.Proofs.YtnikkejfpnnmcaaDoor.Quo
