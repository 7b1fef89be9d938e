/- Lists of numbers: what is in them, whether they are equal; octets that are all alike. -/
import Derived.Test.YticbjaclnneaoaaSlices
import Derived.Test.YticbjaclnneaoaaMapInt
import Derived.Deep.QuietTactic
import Derived.BigQuiet
namespace Go.Proofs.Yticbjaclnneaoaa.Arena
set_option linter.unusedVariables false
open Go.RowKit Go.Proofs.YticbjaclnneaoaaW.PrintWords Go.Proofs.YticbjaclnneaoaaW.PrintLast Go.Proofs.YticbjaclnneaoaaW.PrintMore Go.Proofs.Yticbjaclnneaoaa.Book Go.Proofs.Yticbjaclnneaoaa.Oct Go.Proofs.Yticbjaclnneaoaa.MapInt
set_option linter.unusedSimpArgs false

def litsI (xs : List Int) : List Value := xs.map (.int .i64)
theorem litsI_length (xs : List Int) : (litsI xs).length = xs.length := by simp [litsI]
theorem litsI_app (xs ys : List Int) : litsI (xs ++ ys) = litsI xs ++ litsI ys := by simp [litsI]
theorem litsI_get (xs : List Int) (j : Nat) (h : j < xs.length) : (litsI xs)[j]? = some (.int .i64 (xs.getD j 0)) := by
  unfold litsI
  rw [List.getElem?_map, List.getD_eq_getElem?_getD, List.getElem?_eq_getElem h]; rfl
/-- What a row of one's own reads. -/
theorem own_readsI {w : World} {base n : Nat} {v : Value} {xs : List Int} (h : w.ownsRow base 3 1 v n (litsI xs)) : ∃ A cap, v = .slice A n cap ∧ n ≤ cap ∧ ReadsInt w .i64 A n xs ∧ (∀ ad, A = some ad → base ≤ ad.block ∧ ad.block < w.heap.size) := by
  obtain ⟨hl, ⟨rfl, rfl⟩ | ⟨g, cap, cur, rfl, hb, hh, hc, hm, hs, ht⟩⟩ := h
  · have : xs = [] := by simpa [litsI] using hl
    subst this
    exact ⟨none, 0, rfl, Nat.le_refl _, reads_nothing _ _ _, fun ad e => by cases e⟩
  · have hx : xs.length = n := by simpa [litsI] using hl
    refine ⟨some ⟨g, 0, none⟩, cap, rfl, hc, ⟨hx, by unfold maxLen at hm; omega, fun h0 => ⟨_, rfl, fun j hj => ?_⟩⟩, fun ad e => by obtain rfl := Option.some.inj e; exact ⟨hb, blk_lt hh⟩⟩
    rw [add_zero', blk_cell hh j, ← litsI_get xs j (by omega), ← ht]
    simp only [Nat.mul_one]
    rw [List.getElem?_take_of_lt hj]
    simp

set_option maxHeartbeats 1000000 in
set_option maxRecDepth 100000 in
theorem indexI (A : Option Addr) (n c : Nat) (xs : List Int) (x : Int) (w : World) (h : ReadsInt w .i64 A n xs) (hn : n ≤ 1000000000000000) :
    Calls Try.prog 27 #[.slice A n c, .int .i64 x] w fun e w' => ∃ r : Int, e = .returned (.int .i64 r) ∧ -1 ≤ r ∧ r < n ∧ ∃ m, w' = w.drewN m := by
  have H := Aside0.mk h
  clear h
  go_enter Try.func27, Try.ntmps27
  go_wp2_with fail
  go_loop [5, 8] (fun _ u => ∃ k : Nat, k ≤ n ∧ u = .int .i64 k) (fun _ u => n - (intOf u).toNat)
  case atStart => exact ⟨0, Nat.zero_le _, rfl⟩
  case round =>
    obtain ⟨k, hk, rfl⟩ := hrel
    by_cases hlt : k < n
    · obtain ⟨ad, rfl, hc⟩ := H.out.at_ k (by omega) (by omega)
      rw [Int.toNat_natCast] at hc
      generalize rd xs k = y at hc
      by_cases he : x = y
      · have hb : (x == y) = true := beq_iff_eq.2 he
        go_wp2_with fail
        go_ret
        exact ⟨k, rfl, by omega, by omega, 0, rfl⟩
      · have hb : (x == y) = false := beq_eq_false_iff_ne.2 he
        go_wp2_with fail
        go_round
        case rel => exact ⟨k + 1, by omega, by go_num⟩
        case measure => simp [intOf]; omega
    · obtain rfl : k = n := by omega
      go_wp2_with fail
      go_ret
      exact ⟨-1, rfl, by omega, by omega, 0, rfl⟩
set_option maxHeartbeats 1000000 in
set_option maxRecDepth 100000 in
theorem containsI (A : Option Addr) (n c : Nat) (xs : List Int) (x : Int) (w : World) (h : ReadsInt w .i64 A n xs) (hn : n ≤ 1000000000000000) :
    Calls Try.prog 8 #[.slice A n c, .int .i64 x] w fun e w' => ∃ r : Bool, e = .returned (.bool r) ∧ ∃ m, w' = w.drewN m := by
  have H := Aside0.mk (indexI A n c xs x w h hn)
  clear h
  go_enter Try.func8, Try.ntmps8
  go_wp2_with (go_at_call 27; refine H.out.mono ?_; rintro e w1 ⟨r, rfl, hr1, hr2, m, rfl⟩)
  go_ret
  exact ⟨_, rfl, _, rfl⟩

set_option maxHeartbeats 2000000 in
set_option maxRecDepth 100000 in
theorem equalI (A0 A1 : Option Addr) (c0 c1 n : Nat) (xs : List Int) (w : World) (h0 : ReadsInt w .i64 A0 n xs) (h1 : ReadsInt w .i64 A1 n xs) (hx : n ≤ 1000000000) :
    Calls Try.prog 19 #[.slice A0 n c0, .slice A1 n c1] w fun e w' => e = .returned (.bool true) ∧ Below w.heap.size w w' := by
  have H0 := Aside0.mk h0
  have H1 := Aside0.mk h1
  clear h0 h1
  go_enter Try.func19, Try.ntmps19
  go_wp2
  go_loopw [5, 13] (fun _ i wr => ∃ k : Nat, k ≤ n ∧ i = .int .i64 k ∧ Aside0 (Below w.heap.size w wr)) (fun _ i _ => n - (intOf i).toNat)
  case atStart => exact ⟨0, Nat.zero_le _, rfl, ⟨Below.refl _ _⟩⟩
  case round =>
    obtain ⟨k, hk, rfl, HB⟩ := hrel
    by_cases hlt : k < n
    · obtain ⟨a0, rfl, c0⟩ := (H0.out.below HB.out).at_ k (by omega) (by omega)
      obtain ⟨a1, rfl, c1⟩ := (H1.out.below HB.out).at_ k (by omega) (by omega)
      rw [Int.toNat_natCast] at c0 c1
      go_wp2
      go_quiet (fail)
      go_wp2
      go_roundw
      case rel => exact ⟨k + 1, by omega, by go_num, ⟨pw_below_drewN HB.out _⟩⟩
      case measure => simp [intOf]; omega
    · go_wp2
      go_ret
      exact ⟨rfl, HB.out⟩

/-! ### octets that are all alike -/
set_option maxRecDepth 100000 in
theorem isZero (w : World) : Calls Try.prog 16 #[.int .u8 0] w fun e w' => e = .returned (.bool false) ∧ w' = w := by
  go_enter Try.func16, Try.ntmps16
  go_wp2
  go_ret
  exact ⟨rfl, rfl⟩
set_option maxHeartbeats 1000000 in
set_option maxRecDepth 100000 in
theorem isThat {w : World} {cb nb mb : Nat} {l : List (Int × Value)} {no v : Int} (hc : w.cell? ⟨cb, 0, none⟩ = some (.map (some mb))) (hn : w.cell? ⟨nb, 0, none⟩ = some (.int .i64 no)) (hm : IntMap w mb l) (hg : mget l no = some (.int .u8 v)) :
    Calls Try.prog 37 #[.int .u8 v, .pointer (some ⟨cb, 0, none⟩), .pointer (some ⟨nb, 0, none⟩)] w fun e w' => e = .returned (.bool false) ∧ w' = w := by
  have hl := run_lookup_some (P := Try.prog) (t := 36) Try.underlying36 Try.underlying3 hm hg false
  simp only [Bool.false_eq_true, if_false] at hl
  clear hm hg
  go_enter Try.func37, Try.ntmps37
  go_wp2
  go_ret
  exact ⟨rfl, rfl⟩

set_option maxHeartbeats 1000000 in
set_option maxRecDepth 100000 in
theorem noneZ (A : Option Addr) (n c : Nat) (w : World) (h : ReadsInt w .u8 A n (List.replicate n 0)) (hn : n ≤ 100000) :
    Calls Try.prog 33 #[.slice A n c, .func (.func 16) #[] #[]] w fun e w' => e = .returned (.int .i64 (-1)) ∧ ∃ m, w' = w.drewN m := by
  have H := Aside0.mk h
  clear h
  go_enter Try.func33, Try.ntmps33
  go_wp2_with fail
  go_loop [5, 8] (fun _ u => ∃ k : Nat, k ≤ n ∧ u = .int .i64 k) (fun _ u => n - (intOf u).toNat)
  case atStart => exact ⟨0, Nat.zero_le _, rfl⟩
  case round =>
    obtain ⟨k, hk, rfl⟩ := hrel
    by_cases hlt : k < n
    · obtain ⟨ad, rfl, hc⟩ := H.out.at_ k (by omega) (by omega)
      rw [Int.toNat_natCast] at hc
      have hz : rd (List.replicate n 0) (k : Int) = 0 := by simp [rd, hlt]
      rw [hz] at hc
      go_wp2_with (go_at_call 16; refine (isZero _).mono ?_; rintro e w1 ⟨rfl, rfl⟩)
      go_round
      case rel => exact ⟨k + 1, by omega, by go_num⟩
      case measure => simp [intOf]; omega
    · obtain rfl : k = n := by omega
      go_wp2_with fail
      go_ret
      exact ⟨rfl, 0, rfl⟩
set_option maxHeartbeats 1000000 in
set_option maxRecDepth 100000 in
theorem noneV {cb nb mb : Nat} {l : List (Int × Value)} {no v : Int} (A : Option Addr) (n c : Nat) (w : World) (hc : w.cell? ⟨cb, 0, none⟩ = some (.map (some mb))) (hno : w.cell? ⟨nb, 0, none⟩ = some (.int .i64 no)) (hm : IntMap w mb l) (hg : mget l no = some (.int .u8 v)) (h : ReadsInt w .u8 A n (List.replicate n v)) (hn : n ≤ 100000) :
    Calls Try.prog 33 #[.slice A n c, .func (.func 37) #[] #[.pointer (some ⟨cb, 0, none⟩), .pointer (some ⟨nb, 0, none⟩)]] w fun e w' => e = .returned (.int .i64 (-1)) ∧ ∃ m, w' = w.drewN m := by
  have H := Aside0.mk h
  have HI := Aside0.mk (isThat hc hno hm hg)
  clear h hc hno hm hg
  go_enter Try.func33, Try.ntmps33
  go_wp2_with fail
  go_loop [5, 8] (fun _ u => ∃ k : Nat, k ≤ n ∧ u = .int .i64 k) (fun _ u => n - (intOf u).toNat)
  case atStart => exact ⟨0, Nat.zero_le _, rfl⟩
  case round =>
    obtain ⟨k, hk, rfl⟩ := hrel
    by_cases hlt : k < n
    · obtain ⟨ad, rfl, hc⟩ := H.out.at_ k (by omega) (by omega)
      rw [Int.toNat_natCast] at hc
      have hz : rd (List.replicate n v) (k : Int) = v := by simp [rd, hlt]
      rw [hz] at hc
      go_wp2_with (go_at_call 37; refine HI.out.mono ?_; rintro e w1 ⟨rfl, rfl⟩)
      go_round
      case rel => exact ⟨k + 1, by omega, by go_num⟩
      case measure => simp [intOf]; omega
    · obtain rfl : k = n := by omega
      go_wp2_with fail
      go_ret
      exact ⟨rfl, 0, rfl⟩
set_option maxHeartbeats 1000000 in
set_option maxRecDepth 100000 in
theorem allZ (A : Option Addr) (n c : Nat) (w : World) (h : ReadsInt w .u8 A n (List.replicate n 0)) (hn : n ≤ 100000) :
    Calls Try.prog 15 #[.slice A n c, .func (.func 16) #[] #[]] w fun e w' => e = .returned (.bool false) ∧ ∃ m, w' = w.drewN m := by
  have H := Aside0.mk (noneZ A n c w h hn)
  clear h
  go_enter Try.func15, Try.ntmps15
  go_wp2_with (go_at_call 33; refine H.out.mono ?_; rintro e w1 ⟨rfl, m, rfl⟩)
  go_ret
  exact ⟨rfl, _, rfl⟩
set_option maxHeartbeats 1000000 in
set_option maxRecDepth 100000 in
theorem allV {cb nb mb : Nat} {l : List (Int × Value)} {no v : Int} (A : Option Addr) (n c : Nat) (w : World) (hc : w.cell? ⟨cb, 0, none⟩ = some (.map (some mb))) (hno : w.cell? ⟨nb, 0, none⟩ = some (.int .i64 no)) (hm : IntMap w mb l) (hg : mget l no = some (.int .u8 v)) (h : ReadsInt w .u8 A n (List.replicate n v)) (hn : n ≤ 100000) :
    Calls Try.prog 15 #[.slice A n c, .func (.func 37) #[] #[.pointer (some ⟨cb, 0, none⟩), .pointer (some ⟨nb, 0, none⟩)]] w fun e w' => e = .returned (.bool false) ∧ ∃ m, w' = w.drewN m := by
  have H := Aside0.mk (noneV A n c w hc hno hm hg h hn)
  clear h hc hno hm hg
  go_enter Try.func15, Try.ntmps15
  go_wp2_with (go_at_call 33; refine H.out.mono ?_; rintro e w1 ⟨rfl, m, rfl⟩)
  go_ret
  exact ⟨rfl, _, rfl⟩
end Go.Proofs.Yticbjaclnneaoaa.Arena
