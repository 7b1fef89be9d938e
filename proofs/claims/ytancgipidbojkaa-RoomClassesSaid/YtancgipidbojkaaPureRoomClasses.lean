/- Classes and ClassOf and the reference's ClassList and ClassFor give the same lists, numbers and errors, for all whole numbers. No condition. -/
import Derived.Test.YtancgipidbojkaaPRoomClassesx2
namespace Go.Proofs.Ytancgipidbojkaa.Pure
open Go.RowKit Go.Proofs.Ytancgipidbojkaa.PRoomClasses Go.Proofs.YtancgipidbojkaaW.PrintWords Go.Proofs.YtancgipidbojkaaW.PrintLast

theorem rc_wrap_in (i : Int) (h0 : -9223372036854775808 ≤ i) (h1 : i ≤ 9223372036854775807) : wrap64 i = i := by
  unfold wrap64
  omega

/-- The size classes. -/
def rcList : List Int := [8, 12, 16, 24, 32, 48, 64, 96, 128, 192, 256, 384, 512, 768, 1024, 1536, 2048, 3072, 4096, 6144, 8192, 12288, 16384, 24576, 32768, 49152, 65536, 98304, 100000]

theorem rc_classes : room_Classes.f 20 = some rcList := by decide +kernel
theorem rc_list : cornref1_ClassList.f 20 = some rcList := by decide +kernel
theorem rc_equal : slices_Equal_int_int.f 40 rcList rcList = some true := by decide +kernel

/-- In a rising list: where the search ends, all before are less, and none from there on. -/
theorem rc_sorted_fin : ∀ i j : Fin 29, i.val ≤ j.val → rcList.getD i.val 0 ≤ rcList.getD j.val 0 := by decide +kernel
theorem rc_sorted (i j : Nat) (hi : i < 29) (hj : j < 29) (h : i ≤ j) : rcList.getD i 0 ≤ rcList.getD j 0 := rc_sorted_fin ⟨i, hi⟩ ⟨j, hj⟩ h

theorem rc_search (n : Int) (h : n ≤ 100000) (d : Nat) : ∀ (k : Nat) (lo hi : Nat), lo ≤ hi → hi ≤ 29 → hi - lo ≤ d → d < k →
    (∀ j, j < lo → rcList.getD j 0 < n) → (∀ j, hi ≤ j → j < 29 → n ≤ rcList.getD j 0) →
    ∃ (i : Nat) (b : Bool), slices_BinarySearch_int_int.l0 k rcList n 29 (lo : Int) (hi : Int) = some ((i : Int), b) ∧ i ≤ 28 ∧ (∀ j, j < i → rcList.getD j 0 < n) ∧ n ≤ rcList.getD i 0 := by
  have hend : ∀ k lo : Nat, lo ≤ 29 → (∀ j, j < lo → rcList.getD j 0 < n) → (∀ j, lo ≤ j → j < 29 → n ≤ rcList.getD j 0) →
      ∃ (i : Nat) (b : Bool), slices_BinarySearch_int_int.l0 (k + 1) rcList n 29 (lo : Int) (lo : Int) = some ((i : Int), b) ∧ i ≤ 28 ∧ (∀ j, j < i → rcList.getD j 0 < n) ∧ n ≤ rcList.getD i 0 := by
    intro k lo h1 hlo hhi
    have hl : (rcList.length : Int) = 29 := by decide
    have hlt : lo ≤ 28 := by
      by_cases hc : lo ≤ 28
      · exact hc
      · have h28 := hlo 28 (by omega)
        have : rcList.getD 28 0 = 100000 := by decide
        omega
    simp only [slices_BinarySearch_int_int.l0]
    rw [if_neg (by omega), if_pos (by omega), if_pos (by omega), if_pos (by omega)]
    by_cases he : rd rcList lo = n
    · rw [if_pos he]; exact ⟨lo, true, rfl, hlt, hlo, hhi lo (by omega) (by omega)⟩
    · rw [if_neg he]
      refine ⟨lo, false, ?_, hlt, hlo, hhi lo (by omega) (by omega)⟩
      simp [slices_isNaN_int.f]
  induction d with
  | zero =>
    intro k lo hi h0 h1 hd hk hlo hhi
    obtain ⟨k, rfl⟩ : ∃ m, k = m + 1 := ⟨k - 1, by omega⟩
    obtain rfl : lo = hi := by omega
    exact hend k lo h1 hlo hhi
  | succ d ih =>
    intro k lo hi h0 h1 hd hk hlo hhi
    obtain ⟨k, rfl⟩ : ∃ m, k = m + 1 := ⟨k - 1, by omega⟩
    have hl : (rcList.length : Int) = 29 := by decide
    by_cases hlt : lo < hi
    · simp only [slices_BinarySearch_int_int.l0]
      have hm : wrap64 ((IntKind.u64.wrap (wrap64 ((lo : Int) + hi))) / 2) = (((lo + hi) / 2 : Nat) : Int) := by
        rw [rc_wrap_in ((lo : Int) + hi) (by omega) (by omega)]
        have : IntKind.u64.wrap ((lo : Int) + hi) = (lo : Int) + hi := by
          simp [IntKind.wrap, IntKind.bits, IntKind.signed]; omega
        rw [this, rc_wrap_in _ (by omega) (by omega)]
        omega
      rw [hm, if_pos (by omega), if_pos (by omega), if_pos (by omega)]
      simp only [cmp_Less_int.f, cmp_isNaN_int.f, Option.bind_some, bne_self_eq_false]
      have hrd : rd rcList (((lo + hi) / 2 : Nat) : Int) = rcList.getD ((lo + hi) / 2) 0 := by unfold rd; rw [Int.toNat_natCast]
      rw [hrd]
      by_cases hc : rcList.getD ((lo + hi) / 2) 0 < n
      · rw [if_neg (by simp)]
        simp only [Option.bind_some, decide_eq_true hc, if_true]
        rw [show wrap64 ((((lo + hi) / 2 : Nat) : Int) + 1) = (((lo + hi) / 2 + 1 : Nat) : Int) by rw [rc_wrap_in _ (by omega) (by omega)]; omega]
        refine ih k _ hi (by omega) h1 (by omega) (by omega) ?_ hhi
        intro j hj
        have := rc_sorted j ((lo + hi) / 2) (by omega) (by omega) (by omega)
        omega
      · rw [if_neg (by simp)]
        simp only [Option.bind_some, decide_eq_false hc]
        rw [if_neg (by simp)]
        refine ih k lo _ (by omega) (by omega) (by omega) (by omega) hlo ?_
        intro j hj hj2
        have := rc_sorted ((lo + hi) / 2) j (by omega) (by omega) (by omega)
        omega
    · obtain rfl : lo = hi := by omega
      exact hend k lo h1 hlo hhi

theorem rc_first (n : Int) (i : Nat) (hi : i ≤ 28) (hlo : ∀ j, j < i → rcList.getD j 0 < n) (hhi : n ≤ rcList.getD i 0) (d : Nat) :
    ∀ (k j : Nat), i - j = d → j ≤ i → d < k → cornref1_ClassFor.l0 k n rcList 29 j = some (rcList.getD i 0, 0) := by
  have hl : (rcList.length : Int) = 29 := by decide
  induction d with
  | zero =>
    intro k j hd hj hk
    obtain ⟨k, rfl⟩ : ∃ m, k = m + 1 := ⟨k - 1, by omega⟩
    obtain rfl : j = i := by omega
    simp only [cornref1_ClassFor.l0]
    have hrd : rd rcList (j : Int) = rcList.getD j 0 := by simp [rd]
    rw [if_pos (by omega), if_pos (by omega), if_pos (by omega), hrd, if_pos (by omega)]
  | succ d ih =>
    intro k j hd hj hk
    obtain ⟨k, rfl⟩ : ∃ m, k = m + 1 := ⟨k - 1, by omega⟩
    simp only [cornref1_ClassFor.l0]
    have hrd : rd rcList (j : Int) = rcList.getD j 0 := by simp [rd]
    have := hlo j (by omega)
    rw [if_pos (by omega), if_pos (by omega), if_pos (by omega), hrd, if_neg (by omega), rc_wrap_in _ (by omega) (by omega)]
    exact ih k (j + 1) (by omega) (by omega) (by omega)

/-- The least class that is not below a number. -/
theorem rc_class (n : Int) (h0 : 0 ≤ n) (h1 : n ≤ 100000) : ∃ c, (∀ k, 60 ≤ k → room_ClassOf.f k n = some (c, 0)) ∧ (∀ k, 60 ≤ k → cornref1_ClassFor.f k n = some (c, 0)) ∧ n ≤ c ∧ c ≤ 100000 ∧ 0 ≤ c := by
  have hl : (rcList.length : Int) = 29 := by decide
  obtain ⟨i, b, hs, hi, hlo, hhi⟩ := rc_search n h1 29 60 0 29 (by omega) (by omega) (by omega) (by omega) (by simp) (fun j hj hj2 => by omega)
  have hrd : rd rcList (i : Int) = rcList.getD i 0 := by simp [rd]
  have hs' : ∀ k, 60 ≤ k → slices_BinarySearch_int_int.f k rcList n = some ((i : Int), b) := by
    intro k hk
    refine at_rounds (slices_BinarySearch_int_int.mono rcList n) hk ?_
    unfold slices_BinarySearch_int_int.f
    rw [hl]
    exact hs
  refine ⟨rcList.getD i 0, fun k hk => ?_, fun k hk => ?_, hhi, ?_, ?_⟩
  · unfold room_ClassOf.f room_within.f
    rw [if_pos (by omega)]
    simp only [Option.bind_some, decide_eq_true h1, if_true]
    rw [at_rounds room_Classes.mono (by omega : 20 ≤ k) rc_classes]
    simp only [Option.bind_some]
    rw [hs' k hk]
    simp only [Option.bind_some]
    rw [if_pos (by omega), if_pos (by omega), hrd]
  · unfold cornref1_ClassFor.f cornref1_inRoom.f
    rw [if_pos (by omega)]
    simp only [Option.bind_some, decide_eq_true h1, if_true]
    rw [at_rounds cornref1_ClassList.mono (by omega : 20 ≤ k) rc_list]
    simp only [Option.bind_some]
    rw [hl]
    exact rc_first n i hi hlo hhi i k 0 (by omega) (by omega) (by omega)
  · have := rc_sorted i 28 (by omega) (by omega) (by omega)
    simpa [rcList] using this
  · have := rc_sorted 0 i (by omega) (by omega) (by omega)
    have h8 : rcList.getD 0 0 = 8 := by decide
    omega

theorem RoomClasses : cornlaw1_RoomClasses.Pure := by
  intro n _
  refine ⟨60, ?_⟩
  have e1 := at_rounds room_Classes.mono (by omega : 20 ≤ 60) rc_classes
  have e2 := at_rounds cornref1_ClassList.mono (by omega : 20 ≤ 60) rc_list
  have e3 := at_rounds (slices_Equal_int_int.mono rcList rcList) (by omega : 40 ≤ 60) rc_equal
  have hr : ∃ c e, room_ClassOf.f 60 n = some (c, e) ∧ cornref1_ClassFor.f 60 n = some (c, e) := by
    by_cases h : 0 ≤ n ∧ n ≤ 100000
    · obtain ⟨c, h1, h2, _⟩ := rc_class n h.1 h.2
      exact ⟨c, 0, h1 60 (by omega), h2 60 (by omega)⟩
    · refine ⟨0, 2, ?_, ?_⟩
      · unfold room_ClassOf.f room_within.f
        by_cases h0 : n ≥ 0
        · have : decide (n ≤ 100000) = false := decide_eq_false (by omega)
          rw [if_pos h0]; simp [this]
        · rw [if_neg h0]; simp
      · unfold cornref1_ClassFor.f cornref1_inRoom.f
        by_cases h0 : n ≥ 0
        · have : decide (n ≤ 100000) = false := decide_eq_false (by omega)
          rw [if_pos h0]; simp [this]
        · rw [if_neg h0]; simp
  obtain ⟨c, e, h1, h2⟩ := hr
  unfold cornlaw1_RoomClasses.f
  rw [h1, h2]
  simp only [Option.bind_some, if_true]
  rw [e1, e2]
  simp only [Option.bind_some]
  rw [e3]
  rfl

end Go.Proofs.Ytancgipidbojkaa.Pure
