/- The closures of Fair and FairOf: the sum of the wants, each at most a level. -/
import Derived.Test.YtancgipidbojkaaPLedgerFairx1
import Derived.Lib.Hide
namespace Go.Proofs.Ytancgipidbojkaa.Fair
open Go.RowKit Go.Proofs.YtancgipidbojkaaW.PrintWords Go.Proofs.YtancgipidbojkaaW.PrintLast Go.Proofs.YtancgipidbojkaaW.PrintMore
attribute [local go_sem] max2_int min2_int max_two min_two

/-- The sum of what each gets at a level. -/
def sumAt (level : Int) : List Int → Int
  | [] => 0
  | x :: xs => mn x level + sumAt level xs

theorem sumAt_snoc (level : Int) (xs : List Int) (x : Int) : sumAt level (xs ++ [x]) = sumAt level xs + mn x level := by
  induction xs with
  | nil => simp [sumAt]
  | cons y ys ih => simp [sumAt, ih]; omega

theorem sumAt_range (level : Int) (h0 : 0 ≤ level) (h1 : level ≤ 10000000) (xs : List Int) (h : ∀ x ∈ xs, 0 ≤ x) : 0 ≤ sumAt level xs ∧ sumAt level xs ≤ 10000000 * xs.length := by
  induction xs with
  | nil => simp [sumAt]
  | cons y ys ih =>
    have := ih (fun x hx => h x (by simp [hx]))
    have := h y (by simp)
    simp only [sumAt, List.length_cons, mn]
    split <;> omega

theorem take_next (xs : List Int) (k : Nat) (h : k < xs.length) : xs.take (k + 1) = xs.take k ++ [rd xs k] := by
  rw [List.take_succ_eq_append_getElem h]; simp [rd, h]

theorem wrap_ok (i : Int) (h0 : -9223372036854775808 ≤ i) (h1 : i ≤ 9223372036854775807) : wrap64 i = i := by
  unfold wrap64
  omega

set_option maxHeartbeats 1000000 in
set_option maxRecDepth 100000 in
theorem sum59 (level : Int) (p : Addr) (A : Option Addr) (n c : Nat) (xs : List Int) (w : World) (hl0 : 0 ≤ level) (hl1 : level ≤ 10000000) (hp : w.cell? p = some (.slice A n c))
    (hr : ReadsInt w .i64 A n xs) (hn : n ≤ 1000) (hx : ∀ x ∈ xs, 0 ≤ x ∧ x ≤ 10000000) :
    Calls Try.prog 59 #[.int .i64 level, .pointer (some p)] w fun e w' => e = .returned (.int .i64 (sumAt level xs)) ∧ w = w' := by
  have hlen := hr.1
  have HX := Lib.hid hx
  have HL := Lib.hid hlen
  clear hx hlen
  go_enter Try.func59, Try.ntmps59
  go_wp2
  go_loop [4, 6, 9] (fun s _ i => ∃ k : Nat, k ≤ n ∧ i = .int .i64 k ∧ s = .int .i64 (sumAt level (xs.take k))) (fun _ _ i => n - (intOf i).toNat)
  case atStart => exact ⟨0, Nat.zero_le _, rfl, rfl⟩
  case round =>
    obtain ⟨k, hk, rfl, rfl⟩ := hrel
    have hb := sumAt_range level hl0 hl1 (xs.take k) (fun x hx => (HX.out x (List.mem_of_mem_take hx)).1)
    have hl : (xs.take k).length ≤ k := List.length_take_le _ _
    by_cases hlt : k < n
    · obtain ⟨ad, rfl, hc⟩ := hr.at_ k (by omega) (by omega)
      rw [Int.toNat_natCast] at hc
      have hv := HX.out (rd xs k) (by rw [rd, Int.toNat_natCast, List.getD_eq_getElem?_getD, List.getElem?_eq_getElem (by rw [HL.out]; exact hlt)]; exact List.getElem_mem _)
      have hs : sumAt level (xs.take (k + 1)) = sumAt level (xs.take k) + mn (rd xs k) level := by rw [take_next xs k (by rw [HL.out]; exact hlt), sumAt_snoc]
      have HS := Lib.hid hs
      clear hs
      have hm : 0 ≤ mn (rd xs k) level ∧ mn (rd xs k) level ≤ level := by unfold mn; split <;> omega
      go_wp2
      go_round
      case rel => exact ⟨k + 1, by omega, by go_num, by rw [HS.out]; unfold mn; rfl⟩
      case measure => simp [intOf]; omega
    · go_wp2
      go_ret
      exact ⟨by rw [List.take_of_length_le (by rw [HL.out]; omega)]; rfl, rfl⟩
set_option maxHeartbeats 1000000 in
set_option maxRecDepth 100000 in
theorem sum63 (level : Int) (p : Addr) (A : Option Addr) (n c : Nat) (xs : List Int) (w : World) (hl0 : 0 ≤ level) (hl1 : level ≤ 10000000) (hp : w.cell? p = some (.slice A n c))
    (hr : ReadsInt w .i64 A n xs) (hn : n ≤ 1000) (hx : ∀ x ∈ xs, 0 ≤ x ∧ x ≤ 10000000) :
    Calls Try.prog 63 #[.int .i64 level, .pointer (some p)] w fun e w' => e = .returned (.int .i64 (sumAt level xs)) ∧ w = w' := by
  have hlen := hr.1
  have HX := Lib.hid hx
  have HL := Lib.hid hlen
  clear hx hlen
  go_enter Try.func63, Try.ntmps63
  go_wp2
  go_loop [4, 6, 9] (fun s _ i => ∃ k : Nat, k ≤ n ∧ i = .int .i64 k ∧ s = .int .i64 (sumAt level (xs.take k))) (fun _ _ i => n - (intOf i).toNat)
  case atStart => exact ⟨0, Nat.zero_le _, rfl, rfl⟩
  case round =>
    obtain ⟨k, hk, rfl, rfl⟩ := hrel
    have hb := sumAt_range level hl0 hl1 (xs.take k) (fun x hx => (HX.out x (List.mem_of_mem_take hx)).1)
    have hl : (xs.take k).length ≤ k := List.length_take_le _ _
    by_cases hlt : k < n
    · obtain ⟨ad, rfl, hc⟩ := hr.at_ k (by omega) (by omega)
      rw [Int.toNat_natCast] at hc
      have hv := HX.out (rd xs k) (by rw [rd, Int.toNat_natCast, List.getD_eq_getElem?_getD, List.getElem?_eq_getElem (by rw [HL.out]; exact hlt)]; exact List.getElem_mem _)
      have hs : sumAt level (xs.take (k + 1)) = sumAt level (xs.take k) + mn (rd xs k) level := by rw [take_next xs k (by rw [HL.out]; exact hlt), sumAt_snoc]
      have HS := Lib.hid hs
      clear hs
      have hm : 0 ≤ mn (rd xs k) level ∧ mn (rd xs k) level ≤ level := by unfold mn; split <;> omega
      go_wp2
      go_round
      case rel => exact ⟨k + 1, by omega, by go_num, by rw [HS.out]; unfold mn; rfl⟩
      case measure => simp [intOf]; omega
    · go_wp2
      go_ret
      exact ⟨by rw [List.take_of_length_le (by rw [HL.out]; omega)]; rfl, rfl⟩
end Go.Proofs.Ytancgipidbojkaa.Fair
