/- FairOf, the reference: what it returns, for all whole numbers. -/
import Derived.Test.YtancgipidbojkaaFairOne
import Derived.WalkSpells
namespace Go.Proofs.Ytancgipidbojkaa.Fair
open Go.RowKit Go.Proofs.YtancgipidbojkaaW.PrintWords Go.Proofs.YtancgipidbojkaaW.PrintLast Go.Proofs.YtancgipidbojkaaW.PrintMore
attribute [local go_sem] max2_int min2_int max_two min_two

set_option maxRecDepth 100000 in
theorem inBudget61 (a : Int) (w : World) : Calls Try.prog 61 #[.int .i64 a] w fun e w' => e = .returned (.bool (decide (0 ≤ a ∧ a ≤ 10000000))) ∧ w = w' := by
  by_cases h1 : 0 ≤ a
  · by_cases h2 : a ≤ 10000000
    · go_enter Try.func61, Try.ntmps61
      go_wp2
      go_ret
      exact ⟨by simp [h1, h2], rfl⟩
    · go_enter Try.func61, Try.ntmps61
      go_wp2
      go_ret
      exact ⟨by simp [h2], rfl⟩
  · have h1 : a < 0 := by omega
    go_enter Try.func61, Try.ntmps61
    go_wp2
    go_ret
    exact ⟨by simp; omega, rfl⟩

set_option maxRecDepth 100000 in
theorem clone62 (A : Option Addr) (n c : Nat) (xs : List Int) (w : World) (hr : ReadsInt w .i64 A n xs) (hn : n ≤ 1000) :
    Calls Try.prog 62 #[.slice A n c] w fun e w' => ∃ v, e = .returned v ∧ Kd.R (Kd.int .i64) 3 w' w.heap.size (fun _ => True) v xs ∧ Below w.heap.size w w' := by
  have hnil := fun w => @Lib.run_eql_slice_nil Try.prog w 22 3 A n c 0 0 Try.underlying22
  cases A with
  | none =>
    have h0 : n = 0 := by
      by_cases h : 0 < n
      · obtain ⟨ad, h1, _⟩ := hr.2.2 h; cases h1
      · omega
    have hxs : xs = [] := List.length_eq_zero_iff.1 (hr.1.trans h0)
    subst h0 hxs
    go_enter Try.func62, Try.ntmps62
    go_wp2
    go_ret
    exact ⟨_, rfl, Kd.R_nil _ _ _ _ _, Below.refl _ _⟩
  | some ad =>
    go_enter Try.func62, Try.ntmps62
    go_wp2_with (first | (at_builtin; refine print_append_row (w0 := w) w.heap.size rfl (.tmp 5) (.tmp 6) 22 3 .i64 8 rfl Try.underlying22 info3 (by decide) _ [] xs (some ad) n c rfl rfl (own_lit w w.heap.size 3 .i64 [] (Nat.le_refl _) (by simp)) (hr.below (below_alloc (Below.refl _ _) _)) (below_alloc (Below.refl _ _) _) (by simp) (by simp; omega) ?_; intro v1 w1 ho hb hg hat; have HO := Aside0.mk ho; have HB := Aside0.mk hb; clear ho hb hg hat))
    go_ret
    exact ⟨_, rfl, Kd.R_of_own HO.out (fun _ _ => trivial), HB.out⟩

set_option maxRecDepth 100000 in
theorem fairof_range (budget : Int) (A : Option Addr) (n c : Nat) (w : World) (hb : ¬ (0 ≤ budget ∧ budget ≤ 10000000)) :
    Calls Try.prog 31 #[.int .i64 budget, .slice A n c] w fun e w' => e = .returned (.tuple #[.slice none 0 0, .int .i64 2]) ∧ Below w.heap.size w w' := by
  have hd : decide (0 ≤ budget ∧ budget ≤ 10000000) = false := decide_eq_false hb
  go_enter Try.func31, Try.ntmps31
  go_wp2_with (first | (go_at_call 61; refine (inBudget61 _ _).mono ?_; rintro e w' ⟨rfl, rfl⟩; rw [hd]))
  go_ret2
  exact ⟨rfl, below_alloc (Below.refl _ _) _⟩

set_option maxRecDepth 100000 in
theorem fairof_large (budget : Int) (A : Option Addr) (n c : Nat) (w : World) (hb : 0 ≤ budget ∧ budget ≤ 10000000) (hn : 1000 < n) :
    Calls Try.prog 31 #[.int .i64 budget, .slice A n c] w fun e w' => e = .returned (.tuple #[.slice none 0 0, .int .i64 4]) ∧ Below w.heap.size w w' := by
  have hd : decide (0 ≤ budget ∧ budget ≤ 10000000) = true := decide_eq_true hb
  have hd2 : decide (1000 < (n : Int)) = true := by simp; omega
  go_enter Try.func31, Try.ntmps31
  go_wp2_with (first | (go_at_call 61; refine (inBudget61 _ _).mono ?_; rintro e w' ⟨rfl, rfl⟩; rw [hd]))
  go_ret2
  exact ⟨rfl, below_alloc (Below.refl _ _) _⟩

set_option maxHeartbeats 1000000 in
set_option maxRecDepth 100000 in
theorem fairof_bad (budget : Int) (A : Option Addr) (n c : Nat) (xs : List Int) (w : World) (hb : 0 ≤ budget ∧ budget ≤ 10000000)
    (hr : ReadsInt w .i64 A n xs) (hn : n ≤ 1000) (hx : ¬ ∀ x ∈ xs, 0 ≤ x ∧ x ≤ 10000000) :
    Calls Try.prog 31 #[.int .i64 budget, .slice A n c] w fun e w' => e = .returned (.tuple #[.slice none 0 0, .int .i64 2]) ∧ Below w.heap.size w w' := by
  obtain ⟨j, hj, hbad, hgood⟩ := nth_bad xs hx
  rw [hr.1] at hj
  clear hx
  have hd : decide (1000 < (n : Int)) = false := by simp; omega
  have hd1 : decide (0 ≤ budget ∧ budget ≤ 10000000) = true := decide_eq_true hb
  have hra : ReadsInt (w.alloc (.cells #[.slice A n c] 22)) .i64 A n xs := hr.below (below_alloc (Below.refl _ _) _)
  have hba : Aside0 (Below w.heap.size w (w.alloc (.cells #[.slice A n c] 22))) := ⟨below_alloc (Below.refl _ _) _⟩
  have HG := Lib.hid hgood
  have HBad := Lib.hid hbad
  clear hgood hbad hr
  go_enter Try.func31, Try.ntmps31
  go_wp2_with (first | (go_at_call 61; refine (inBudget61 _ _).mono ?_; rintro e w' ⟨rfl, rfl⟩; rw [hd1]))
  go_loop [6, 8, 26] (fun s _ i => ∃ k : Nat, k ≤ j ∧ i = .int .i64 k ∧ ∃ t : Int, s = .int .i64 t) (fun _ _ i => n - (intOf i).toNat)
  case atStart => exact ⟨0, Nat.zero_le _, rfl, 0, rfl⟩
  case round =>
    obtain ⟨k, hk, rfl, t, rfl⟩ := hrel
    obtain ⟨ad, rfl, hc⟩ := hra.at_ k (by omega) (by omega)
    rw [Int.toNat_natCast] at hc
    by_cases hlt : k < j
    · have hv := HG.out k hlt
      have hd2 : decide (0 ≤ rd xs k ∧ rd xs k ≤ 10000000) = true := decide_eq_true hv
      have hlt2 : k < n := by omega
      go_wp2_with (first | (go_at_call 61; refine (inBudget61 _ _).mono ?_; rintro e w' ⟨rfl, rfl⟩; rw [hd2]))
      go_round
      case rel => exact ⟨k + 1, by omega, by go_num, _, rfl⟩
      case measure => simp [intOf]; omega
    · obtain rfl : k = j := by omega
      have hd2 : decide (0 ≤ rd xs k ∧ rd xs k ≤ 10000000) = false := decide_eq_false HBad.out
      go_wp2_with (first | (go_at_call 61; refine (inBudget61 _ _).mono ?_; rintro e w' ⟨rfl, rfl⟩; rw [hd2]))
      go_ret2
      exact ⟨rfl, hba.out⟩

/-- The sum of all. -/
def total : List Int → Int
  | [] => 0
  | x :: xs => x + total xs
theorem total_snoc (xs : List Int) (x : Int) : total (xs ++ [x]) = total xs + x := by
  induction xs with
  | nil => simp [total]
  | cons y ys ih => simp [total, ih]; omega
theorem total_range (xs : List Int) (h : ∀ x ∈ xs, 0 ≤ x ∧ x ≤ 10000000) : 0 ≤ total xs ∧ total xs ≤ 10000000 * xs.length := by
  induction xs with
  | nil => simp [total]
  | cons y ys ih =>
    have := ih (fun x hx => h x (by simp [hx]))
    have := h y (by simp)
    simp only [total, List.length_cons]
    omega
theorem total_top (xs : List Int) (h : ∀ x ∈ xs, 0 ≤ x ∧ x ≤ 10000000) : sumAt 10000000 xs = total xs := by
  induction xs with
  | nil => rfl
  | cons y ys ih =>
    have := h y (by simp)
    rw [sumAt, total, ih (fun x hx => h x (by simp [hx]))]
    unfold mn; split <;> omega

set_option maxHeartbeats 1000000 in
set_option maxRecDepth 100000 in
theorem fairof_all (budget : Int) (A : Option Addr) (n c : Nat) (xs : List Int) (w : World) (hb0 : 0 ≤ budget) (hb1 : budget ≤ 10000000)
    (hr : ReadsInt w .i64 A n xs) (hn : n ≤ 1000) (hx : ∀ x ∈ xs, 0 ≤ x ∧ x ≤ 10000000) (ht : total xs ≤ budget) :
    Calls Try.prog 31 #[.int .i64 budget, .slice A n c] w fun e w' => ∃ (v : Value), e = .returned (.tuple #[v, .int .i64 0]) ∧
      Kd.R (Kd.int .i64) 3 w' w.heap.size (fun _ => True) v xs ∧ Below w.heap.size w w' := by
  have hlen := hr.1
  have HX := Lib.hid hx
  have HL := Lib.hid hlen
  have HT := Lib.hid ht
  clear hx hlen ht
  have hd : decide (1000 < (n : Int)) = false := by simp; omega
  have hd1 : decide (0 ≤ budget ∧ budget ≤ 10000000) = true := decide_eq_true ⟨hb0, hb1⟩
  have hra : ReadsInt (w.alloc (.cells #[.slice A n c] 22)) .i64 A n xs := hr.below (below_alloc (Below.refl _ _) _)
  have hba : Aside0 (Below w.heap.size w (w.alloc (.cells #[.slice A n c] 22))) := ⟨below_alloc (Below.refl _ _) _⟩
  go_enter Try.func31, Try.ntmps31
  go_wp2_with (first | (go_at_call 61; refine (inBudget61 _ _).mono ?_; rintro e w' ⟨rfl, rfl⟩; rw [hd1]))
  go_loop [6, 8, 26] (fun s _ i => ∃ k : Nat, k ≤ n ∧ i = .int .i64 k ∧ s = .int .i64 (total (xs.take k))) (fun _ _ i => n - (intOf i).toNat)
  case atStart => exact ⟨0, Nat.zero_le _, rfl, rfl⟩
  case round =>
    obtain ⟨k, hk, rfl, rfl⟩ := hrel
    by_cases hlt : k < n
    · obtain ⟨ad, rfl, hc⟩ := hra.at_ k (by omega) (by omega)
      rw [Int.toNat_natCast] at hc
      have hv := HX.out (rd xs k) (by rw [rd, Int.toNat_natCast, List.getD_eq_getElem?_getD, List.getElem?_eq_getElem (by rw [HL.out]; exact hlt)]; exact List.getElem_mem _)
      have hd2 : decide (0 ≤ rd xs k ∧ rd xs k ≤ 10000000) = true := decide_eq_true hv
      have htr := total_range (xs.take k) (fun x hx => HX.out x (List.mem_of_mem_take hx))
      have htl : (xs.take k).length ≤ k := List.length_take_le _ _
      have hs : total (xs.take (k + 1)) = total (xs.take k) + rd xs k := by rw [take_next xs k (by rw [HL.out]; exact hlt), total_snoc]
      have HS := Lib.hid hs
      clear hs
      go_wp2_with (first | (go_at_call 61; refine (inBudget61 _ _).mono ?_; rintro e w' ⟨rfl, rfl⟩; rw [hd2]))
      go_round
      case rel => exact ⟨k + 1, by omega, by go_num, by rw [HS.out]⟩
      case measure => simp [intOf]; omega
    · have hk2 : n ≤ k := by omega
      have htk : total (xs.take k) ≤ budget := by rw [List.take_of_length_le (by rw [HL.out]; omega)]; exact HT.out
      have htb : decide (total (xs.take k) ≤ budget) = true := decide_eq_true htk
      have hpa : Aside0 ((w.alloc (.cells #[.slice A n c] 22)).cell? ⟨w.heap.size, 0, none⟩ = some (.slice A n c)) := ⟨by rw [blk_cell (blk_new w _)]; rfl⟩
      go_wp2_with (first | (go_at_call 62; refine (clone62 _ n c xs _ hra (by omega)).mono ?_; rintro e w' ⟨v, rfl, hR, hB⟩; have HR := Aside0.mk hR; have HB := Aside0.mk hB; clear hR hB))
      go_ret2
      exact ⟨_, rfl, Kd.R_lower HR.out (by simp), below_then hba.out (by simp) HB.out⟩

set_option maxHeartbeats 4000000 in
set_option maxRecDepth 100000 in
theorem fairof_ok (budget : Int) (A : Option Addr) (n c : Nat) (xs : List Int) (w : World) (hb0 : 0 ≤ budget) (hb1 : budget ≤ 10000000)
    (hr : ReadsInt w .i64 A n xs) (hn : n ≤ 1000) (hx : ∀ x ∈ xs, 0 ≤ x ∧ x ≤ 10000000) (ht : budget < total xs) :
    Calls Try.prog 31 #[.int .i64 budget, .slice A n c] w fun e w' => ∃ (level : Int) (v : Value), e = .returned (.tuple #[v, .int .i64 0]) ∧
      Kd.R (Kd.int .i64) 3 w' w.heap.size (fun _ => True) v (gives level (budget - sumAt level xs) xs).1 ∧ Below w.heap.size w w' ∧
      0 ≤ level ∧ level < 10000000 ∧ sumAt level xs ≤ budget ∧ budget < sumAt (level + 1) xs := by
  have hlen := hr.1
  have htop : budget < sumAt 10000000 xs := by rw [total_top xs hx]; exact ht
  have HX := Lib.hid hx
  have HL := Lib.hid hlen
  have HT := Lib.hid ht
  have HTop := Lib.hid htop
  clear hx hlen ht htop
  have hd : decide (1000 < (n : Int)) = false := by simp; omega
  have hd1 : decide (0 ≤ budget ∧ budget ≤ 10000000) = true := decide_eq_true ⟨hb0, hb1⟩
  have hra : ReadsInt (w.alloc (.cells #[.slice A n c] 22)) .i64 A n xs := hr.below (below_alloc (Below.refl _ _) _)
  have hba : Aside0 (Below w.heap.size w (w.alloc (.cells #[.slice A n c] 22))) := ⟨below_alloc (Below.refl _ _) _⟩
  have hpa : Aside0 ((w.alloc (.cells #[.slice A n c] 22)).cell? ⟨w.heap.size, 0, none⟩ = some (.slice A n c)) := ⟨by rw [blk_cell (blk_new w _)]; rfl⟩
  go_enter Try.func31, Try.ntmps31
  go_wp2_with (first | (go_at_call 61; refine (inBudget61 _ _).mono ?_; rintro e w' ⟨rfl, rfl⟩; rw [hd1]))
  go_loop [6, 8, 26] (fun s _ i => ∃ k : Nat, k ≤ n ∧ i = .int .i64 k ∧ s = .int .i64 (total (xs.take k))) (fun _ _ i => n - (intOf i).toNat)
  case atStart => exact ⟨0, Nat.zero_le _, rfl, rfl⟩
  case round =>
    obtain ⟨k, hk, rfl, rfl⟩ := hrel
    by_cases hlt : k < n
    · obtain ⟨ad, rfl, hc⟩ := hra.at_ k (by omega) (by omega)
      rw [Int.toNat_natCast] at hc
      have hv := HX.out (rd xs k) (by rw [rd, Int.toNat_natCast, List.getD_eq_getElem?_getD, List.getElem?_eq_getElem (by rw [HL.out]; exact hlt)]; exact List.getElem_mem _)
      have hd2 : decide (0 ≤ rd xs k ∧ rd xs k ≤ 10000000) = true := decide_eq_true hv
      have htr := total_range (xs.take k) (fun x hx => HX.out x (List.mem_of_mem_take hx))
      have htl : (xs.take k).length ≤ k := List.length_take_le _ _
      have hs : total (xs.take (k + 1)) = total (xs.take k) + rd xs k := by rw [take_next xs k (by rw [HL.out]; exact hlt), total_snoc]
      have HS := Lib.hid hs
      clear hs
      go_wp2_with (first | (go_at_call 61; refine (inBudget61 _ _).mono ?_; rintro e w' ⟨rfl, rfl⟩; rw [hd2]))
      go_round
      case rel => exact ⟨k + 1, by omega, by go_num, by rw [HS.out]⟩
      case measure => simp [intOf]; omega
    · have hk2 : n ≤ k := by omega
      have htk : budget < total (xs.take k) := by rw [List.take_of_length_le (by rw [HL.out]; omega)]; exact HT.out
      have htb : decide (total (xs.take k) ≤ budget) = false := decide_eq_false (by omega)
      go_wp2
      go_loop [10, 11, 12] (fun lo hi _ => ∃ l h : Int, lo = .int .i64 l ∧ hi = .int .i64 h ∧ 0 ≤ l ∧ l < h ∧ h ≤ 10000000 ∧ Aside0 (sumAt l xs ≤ budget ∧ budget < sumAt h xs)) (fun lo hi _ => (intOf hi - intOf lo).toNat)
      case atStart => exact ⟨0, 10000000, rfl, rfl, by omega, by omega, by omega, ⟨by rw [sumAt_zero _ (fun x hx => (HX.out x hx).1)]; exact hb0, HTop.out⟩⟩
      case round =>
        obtain ⟨l, h, rfl, rfl, hl0, hlh, hh1, HS⟩ := hrel
        by_cases hlt : 1 < h - l
        · by_cases hs : sumAt ((l + h) / 2) xs ≤ budget
          · have hsb : decide (sumAt ((l + h) / 2) xs ≤ budget) = true := decide_eq_true hs
            go_wp2_with (first | (go_at_call 63; refine (sum63 _ _ _ n c xs _ (by omega) (by omega) hpa.out hra hn HX.out).mono ?_; rintro e w' ⟨rfl, rfl⟩))
            go_round
            case rel => exact ⟨_, h, rfl, rfl, by omega, by omega, by omega, ⟨hs, HS.out.2⟩⟩
            case measure => simp [intOf]; omega
          · have hsb : decide (sumAt ((l + h) / 2) xs ≤ budget) = false := decide_eq_false hs
            go_wp2_with (first | (go_at_call 63; refine (sum63 _ _ _ n c xs _ (by omega) (by omega) hpa.out hra hn HX.out).mono ?_; rintro e w' ⟨rfl, rfl⟩))
            go_round
            case rel => exact ⟨l, _, rfl, rfl, by omega, by omega, by omega, ⟨HS.out.1, by omega⟩⟩
            case measure => simp [intOf]; omega
        · obtain rfl : h = l + 1 := by omega
          have hsr := sumAt_range l (by omega) (by omega) xs (fun x hx => (HX.out x hx).1)
          rw [HL.out] at hsr
          have hsb : sumAt l xs ≤ budget := HS.out.1
          go_wp2_with (first | (go_at_call 63; refine (sum63 _ _ _ n c xs _ (by omega) (by omega) hpa.out hra hn HX.out).mono ?_; rintro e w' ⟨rfl, rfl⟩))
          go_loopw [13, 14, 16, 17, 65] (fun r v _ _ i wr => ∃ k : Nat, k ≤ n ∧ i = .int .i64 k ∧ r = .int .i64 (gives l (budget - sumAt l xs) (xs.take k)).2 ∧ Aside0 (Kd.R (Kd.int .i64) 3 wr w.heap.size (fun _ => True) v (gives l (budget - sumAt l xs) (xs.take k)).1) ∧ Aside0 (Below w.heap.size w wr)) (fun _ _ _ _ i _ => n - (intOf i).toNat)
          case atStart => exact ⟨0, Nat.zero_le _, rfl, rfl, ⟨Kd.R_nil _ _ _ _ _⟩, hba⟩
          case round =>
            obtain ⟨k, hk, rfl, rfl, HR, HB⟩ := hrel
            have hg := gives_rest l (budget - sumAt l xs) (by omega) (xs.take k)
            have hlk := gives_len l (budget - sumAt l xs) (xs.take k)
            rw [List.length_take, HL.out] at hlk
            have hlk2 : (gives l (budget - sumAt l xs) (xs.take k)).1.length ≤ 1000 := by omega
            clear hlk
            by_cases hlt : k < n
            · have hrk := hr.below HB.out
              obtain ⟨ad, rfl, hc⟩ := hrk.at_ k (by omega) (by omega)
              rw [Int.toNat_natCast] at hc
              clear hrk
              have hv := HX.out (rd xs k) (by rw [rd, Int.toNat_natCast, List.getD_eq_getElem?_getD, List.getElem?_eq_getElem (by rw [HL.out]; exact hlt)]; exact List.getElem_mem _)
              have hs : gives l (budget - sumAt l xs) (xs.take (k + 1)) = give l (gives l (budget - sumAt l xs) (xs.take k)) (rd xs k) := by rw [take_next xs k (by rw [HL.out]; exact hlt), gives_snoc]
              have HS2 := Lib.hid hs
              clear hs
              by_cases hw : l < rd xs k
              · have hmn : mn (rd xs k) l = l := by unfold mn; rw [if_pos hw]
                by_cases hz : 0 < (gives l (budget - sumAt l xs) (xs.take k)).2
                · have hgv : give l (gives l (budget - sumAt l xs) (xs.take k)) (rd xs k) = ((gives l (budget - sumAt l xs) (xs.take k)).1 ++ [l + 1], (gives l (budget - sumAt l xs) (xs.take k)).2 - 1) := by unfold give; rw [if_pos ⟨hw, hz⟩, hmn]
                  have HG := Lib.hid hgv
                  clear hgv hmn
                  go_wp2_with (first | (((with_reducible refine gate_builtin (b := .append) (xs := #[.tmp 83, .tmp 85]) rfl ?_); at_builtin; refine Kd.R_append (Kd.int .i64) (w0 := w) w.heap.size rfl (.tmp 83) (.tmp 85) 22 3 (.int .i64 0) 8 rfl Try.underlying22 info3 rfl (by decide) (by omega) _ (gives l (budget - sumAt l xs) (xs.take k)).1 (l + 1) [.int .i64 (l + 1)] (fun _ => True) (fun _ => False) rfl rfl ?aP (fun _ hk => hk.elim) ?aF ?aO ?aB ?aS ?aL ?_; (case aP => exact rfl); (case aB => exact (by repeat (first | (with_reducible first | exact HB.out | apply below_alloc | apply pw_below_drewN | apply below_drew1) | exact HB.out))); (case aF => exact (fun _ _ => trivial)); (case aO => exact (by (with_reducible repeat (first | apply Kd.R_alloc | apply Kd.R_drewN | apply Kd.R_drew)); exact HR.out)); (case aS => exact (below_size (by repeat (first | (with_reducible first | exact HB.out | apply below_alloc | apply pw_below_drewN | apply below_drew1) | exact HB.out)))); (case aL => omega); intro v1 w1 ho hb hg hat; have HO1 := Aside0.mk ho; have HB1 := Aside0.mk hb; clear ho hb hg hat)))
                  go_roundw
                  case rel => exact ⟨k + 1, by omega, by go_num, by rw [HS2.out]; rw [HG.out], ⟨by rw [HS2.out]; rw [HG.out]; exact HO1.out⟩, HB1⟩
                  case measure => simp [intOf]; omega
                · have hgv : give l (gives l (budget - sumAt l xs) (xs.take k)) (rd xs k) = ((gives l (budget - sumAt l xs) (xs.take k)).1 ++ [l], (gives l (budget - sumAt l xs) (xs.take k)).2) := by unfold give; rw [if_neg (fun h => hz h.2), hmn]
                  have HG := Lib.hid hgv
                  clear hgv hmn
                  go_wp2_with (first | (((with_reducible refine gate_builtin (b := .append) (xs := #[.tmp 83, .tmp 85]) rfl ?_); at_builtin; refine Kd.R_append (Kd.int .i64) (w0 := w) w.heap.size rfl (.tmp 83) (.tmp 85) 22 3 (.int .i64 0) 8 rfl Try.underlying22 info3 rfl (by decide) (by omega) _ (gives l (budget - sumAt l xs) (xs.take k)).1 l [.int .i64 l] (fun _ => True) (fun _ => False) rfl rfl ?aP (fun _ hk => hk.elim) ?aF ?aO ?aB ?aS ?aL ?_; (case aP => exact rfl); (case aB => exact (by repeat (first | (with_reducible first | exact HB.out | apply below_alloc | apply pw_below_drewN | apply below_drew1) | exact HB.out))); (case aF => exact (fun _ _ => trivial)); (case aO => exact (by (with_reducible repeat (first | apply Kd.R_alloc | apply Kd.R_drewN | apply Kd.R_drew)); exact HR.out)); (case aS => exact (below_size (by repeat (first | (with_reducible first | exact HB.out | apply below_alloc | apply pw_below_drewN | apply below_drew1) | exact HB.out)))); (case aL => omega); intro v1 w1 ho hb hg hat; have HO1 := Aside0.mk ho; have HB1 := Aside0.mk hb; clear ho hb hg hat)))
                  go_roundw
                  case rel => exact ⟨k + 1, by omega, by go_num, by rw [HS2.out]; rw [HG.out], ⟨by rw [HS2.out]; rw [HG.out]; exact HO1.out⟩, HB1⟩
                  case measure => simp [intOf]; omega
              · have hgv : give l (gives l (budget - sumAt l xs) (xs.take k)) (rd xs k) = ((gives l (budget - sumAt l xs) (xs.take k)).1 ++ [rd xs k], (gives l (budget - sumAt l xs) (xs.take k)).2) := by unfold give; rw [if_neg (fun h => hw h.1)]; unfold mn; rw [if_neg hw]
                have HG := Lib.hid hgv
                clear hgv
                go_wp2_with (first | (((with_reducible refine gate_builtin (b := .append) (xs := #[.tmp 83, .tmp 85]) rfl ?_); at_builtin; refine Kd.R_append (Kd.int .i64) (w0 := w) w.heap.size rfl (.tmp 83) (.tmp 85) 22 3 (.int .i64 0) 8 rfl Try.underlying22 info3 rfl (by decide) (by omega) _ (gives l (budget - sumAt l xs) (xs.take k)).1 (rd xs k) [.int .i64 (rd xs k)] (fun _ => True) (fun _ => False) rfl rfl ?aP (fun _ hk => hk.elim) ?aF ?aO ?aB ?aS ?aL ?_; (case aP => exact rfl); (case aB => exact (by repeat (first | (with_reducible first | exact HB.out | apply below_alloc | apply pw_below_drewN | apply below_drew1) | exact HB.out))); (case aF => exact (fun _ _ => trivial)); (case aO => exact (by (with_reducible repeat (first | apply Kd.R_alloc | apply Kd.R_drewN | apply Kd.R_drew)); exact HR.out)); (case aS => exact (below_size (by repeat (first | (with_reducible first | exact HB.out | apply below_alloc | apply pw_below_drewN | apply below_drew1) | exact HB.out)))); (case aL => omega); intro v1 w1 ho hb hg hat; have HO1 := Aside0.mk ho; have HB1 := Aside0.mk hb; clear ho hb hg hat)))
                go_roundw
                case rel => exact ⟨k + 1, by omega, by go_num, by rw [HS2.out]; rw [HG.out], ⟨by rw [HS2.out]; rw [HG.out]; exact HO1.out⟩, HB1⟩
                case measure => simp [intOf]; omega
            · have hk2 : n ≤ k := by omega
              go_wp2
              go_ret2
              rw [List.take_of_length_le (by rw [HL.out]; omega)] at HR
              exact ⟨l, _, rfl, HR.out, HB.out, by omega, by omega, HS.out.1, HS.out.2⟩
end Go.Proofs.Ytancgipidbojkaa.Fair
