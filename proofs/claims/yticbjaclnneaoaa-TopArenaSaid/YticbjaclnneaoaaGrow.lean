/- What Grow returns, in numbers. -/
import Derived.Test.YticbjaclnneaoaaPTopArenax2
namespace Go.Proofs.Yticbjaclnneaoaa.Pure
open Go.RowKit Go.Proofs.Yticbjaclnneaoaa.PTopArena Go.Proofs.YticbjaclnneaoaaW.PrintWords Go.Proofs.YticbjaclnneaoaaW.PrintLast Go.Proofs.YticbjaclnneaoaaW.PrintMore

theorem rc_wrap_in (i : Int) (h0 : -9223372036854775808 ≤ i) (h1 : i ≤ 9223372036854775807) : wrap64 i = i := by
  unfold wrap64
  omega

/-- The size classes. -/
def rcList : List Int := [8, 12, 16, 24, 32, 48, 64, 96, 128, 192, 256, 384, 512, 768, 1024, 1536, 2048, 3072, 4096, 6144, 8192, 12288, 16384, 24576, 32768, 49152, 65536, 98304, 100000]

theorem rc_classes : room_Classes.f 20 = some rcList := by decide +kernel

/-- In a rising list: where the search ends, all before are less, and none from there on. -/
theorem rc_sorted_fin : ∀ i j : Fin 29, i.val ≤ j.val → rcList.getD i.val 0 ≤ rcList.getD j.val 0 := by decide +kernel
theorem rc_sorted (i j : Nat) (hi : i < 29) (hj : j < 29) (h : i ≤ j) : rcList.getD i 0 ≤ rcList.getD j 0 := rc_sorted_fin ⟨i, hi⟩ ⟨j, hj⟩ h

theorem rc_search (n : Int) (h : n ≤ 100000) (d : Nat) : ∀ (k : Nat) (lo hi : Nat), lo ≤ hi → hi ≤ 29 → hi - lo ≤ d → d < k →
    (∀ j, j < lo → rcList.getD j 0 < n) → (∀ j, hi ≤ j → j < 29 → n ≤ rcList.getD j 0) →
    ∃ (i : Nat) (b : Bool), slices_BinarySearch_int_int.l0 k rcList n 29 (lo : Int) (hi : Int) = some ((i : Int), b) ∧ i ≤ 28 ∧ (∀ j, j < i → rcList.getD j 0 < n) ∧ n ≤ rcList.getD i 0 := by
  have hend : ∀ k lo : Nat, lo ≤ 29 → (∀ j, j < lo → rcList.getD j 0 < n) → (∀ j, lo ≤ j → j < 29 → n ≤ rcList.getD j 0) →
      ∃ (i : Nat) (b : Bool), slices_BinarySearch_int_int.l0 (k + 1) rcList n 29 (lo : Int) (lo : Int) = some ((i : Int), b) ∧ i ≤ 28 ∧ (∀ j, j < i → rcList.getD j 0 < n) ∧ n ≤ rcList.getD i 0 := by
    intro k lo h1 hlo hhi
    have hl : (rcList.length : Int) = 29 := by decide
    have hlt : lo ≤ 28 := by
      by_cases hc : lo ≤ 28
      · exact hc
      · have h28 := hlo 28 (by omega)
        have : rcList.getD 28 0 = 100000 := by decide
        omega
    simp only [slices_BinarySearch_int_int.l0]
    rw [if_neg (by omega), if_pos (by omega), if_pos (by omega), if_pos (by omega)]
    by_cases he : rd rcList lo = n
    · rw [if_pos he]; exact ⟨lo, true, rfl, hlt, hlo, hhi lo (by omega) (by omega)⟩
    · rw [if_neg he]
      refine ⟨lo, false, ?_, hlt, hlo, hhi lo (by omega) (by omega)⟩
      simp [slices_isNaN_int.f]
  induction d with
  | zero =>
    intro k lo hi h0 h1 hd hk hlo hhi
    obtain ⟨k, rfl⟩ : ∃ m, k = m + 1 := ⟨k - 1, by omega⟩
    obtain rfl : lo = hi := by omega
    exact hend k lo h1 hlo hhi
  | succ d ih =>
    intro k lo hi h0 h1 hd hk hlo hhi
    obtain ⟨k, rfl⟩ : ∃ m, k = m + 1 := ⟨k - 1, by omega⟩
    have hl : (rcList.length : Int) = 29 := by decide
    by_cases hlt : lo < hi
    · simp only [slices_BinarySearch_int_int.l0]
      have hm : wrap64 ((IntKind.u64.wrap (wrap64 ((lo : Int) + hi))) / 2) = (((lo + hi) / 2 : Nat) : Int) := by
        rw [rc_wrap_in ((lo : Int) + hi) (by omega) (by omega)]
        have : IntKind.u64.wrap ((lo : Int) + hi) = (lo : Int) + hi := by
          simp [IntKind.wrap, IntKind.bits, IntKind.signed]; omega
        rw [this, rc_wrap_in _ (by omega) (by omega)]
        omega
      rw [hm, if_pos (by omega), if_pos (by omega), if_pos (by omega)]
      simp only [cmp_Less_int.f, cmp_isNaN_int.f, Option.bind_some, bne_self_eq_false]
      have hrd : rd rcList (((lo + hi) / 2 : Nat) : Int) = rcList.getD ((lo + hi) / 2) 0 := by unfold rd; rw [Int.toNat_natCast]
      rw [hrd]
      by_cases hc : rcList.getD ((lo + hi) / 2) 0 < n
      · rw [if_neg (by simp)]
        simp only [Option.bind_some, decide_eq_true hc, if_true]
        rw [show wrap64 ((((lo + hi) / 2 : Nat) : Int) + 1) = (((lo + hi) / 2 + 1 : Nat) : Int) by rw [rc_wrap_in _ (by omega) (by omega)]; omega]
        refine ih k _ hi (by omega) h1 (by omega) (by omega) ?_ hhi
        intro j hj
        have := rc_sorted j ((lo + hi) / 2) (by omega) (by omega) (by omega)
        omega
      · rw [if_neg (by simp)]
        simp only [Option.bind_some, decide_eq_false hc]
        rw [if_neg (by simp)]
        refine ih k lo _ (by omega) (by omega) (by omega) (by omega) hlo ?_
        intro j hj hj2
        have := rc_sorted ((lo + hi) / 2) j (by omega) (by omega) (by omega)
        omega
    · obtain rfl : lo = hi := by omega
      exact hend k lo h1 hlo hhi

/-- The least class that is not below a number. -/
theorem rc_class (n : Int) (h0 : 0 ≤ n) (h1 : n ≤ 100000) : ∃ c, (∀ k, 60 ≤ k → room_ClassOf.f k n = some (c, 0)) ∧ n ≤ c ∧ c ≤ 100000 ∧ 0 ≤ c := by
  have hl : (rcList.length : Int) = 29 := by decide
  obtain ⟨i, b, hs, hi, hlo, hhi⟩ := rc_search n h1 29 60 0 29 (by omega) (by omega) (by omega) (by omega) (by simp) (fun j hj hj2 => by omega)
  have hrd : rd rcList (i : Int) = rcList.getD i 0 := by simp [rd]
  have hs' : ∀ k, 60 ≤ k → slices_BinarySearch_int_int.f k rcList n = some ((i : Int), b) := by
    intro k hk
    refine at_rounds (slices_BinarySearch_int_int.mono rcList n) hk ?_
    unfold slices_BinarySearch_int_int.f
    rw [hl]
    exact hs
  refine ⟨rcList.getD i 0, fun k hk => ?_, hhi, ?_, ?_⟩
  · unfold room_ClassOf.f room_within.f
    rw [if_pos (by omega)]
    simp only [Option.bind_some, decide_eq_true h1, if_true]
    rw [at_rounds room_Classes.mono (by omega : 20 ≤ k) rc_classes]
    simp only [Option.bind_some]
    rw [hs' k hk]
    simp only [Option.bind_some]
    rw [if_pos (by omega), if_pos (by omega), hrd]
  · have := rc_sorted i 28 (by omega) (by omega) (by omega)
    simpa [rcList] using this
  · have := rc_sorted 0 i (by omega) (by omega) (by omega)
    have h8 : rcList.getD 0 0 = 8 := by decide
    omega


/-- The error of a policy. -/
def rgFault (k s m : Int) : Int := if k < 1 ∨ k > 5 then 10 else if (k = 2 ∧ (s < 1 ∨ s > 100000)) ∨ (k ≠ 2 ∧ s ≠ 0) ∨ m < 0 ∨ m > 100000 then 2 else 0

theorem rg_right {k s m : Int} (h : rgFault k s m = 0) : 1 ≤ k ∧ k ≤ 5 ∧ (k = 2 → 1 ≤ s ∧ s ≤ 100000) ∧ (k ≠ 2 → s = 0) ∧ 0 ≤ m ∧ m ≤ 100000 := by
  unfold rgFault at h
  split at h
  · omega
  · split at h <;> omega

theorem rg_check (n : Nat) (hn : 5 ≤ n) (k s m : Int) : room_CheckPolicy.f n k s m = some (rgFault k s m) := by
  obtain ⟨n, rfl⟩ : ∃ j, n = j + 5 := ⟨n - 5, by omega⟩
  unfold room_CheckPolicy.f rgFault
  simp only [room_within.f, room_CheckPolicy.j0, room_CheckPolicy.j1]
  by_cases h1 : k ≥ 1
  · rw [if_pos h1]
    simp only [Option.bind_some]
    by_cases h2 : k ≤ 5
    · simp only [decide_eq_true h2, if_true]
      rw [if_neg (by omega : ¬ (k < 1 ∨ k > 5))]
      by_cases h3 : k = 2
      · subst h3
        simp only [if_true]
        by_cases h4 : s ≥ 1
        · rw [if_pos h4]
          simp only [Option.bind_some]
          by_cases h5 : s ≤ 100000
          · by_cases h6 : m ≥ 0
            · by_cases h7 : m ≤ 100000
              · simp [h5, h6, h7]; try omega
              · simp [h5, h6, h7]; try omega
            · simp [h5, h6]; try omega
          · simp [h5]; try omega
        · rw [if_neg h4]
          simp; try omega
      · simp only [if_neg h3]
        by_cases h4 : s = 0
        · subst h4
          by_cases h6 : m ≥ 0
          · by_cases h7 : m ≤ 100000
            · simp [h3, h6, h7]; try omega
            · simp [h3, h6, h7]; try omega
          · simp [h3, h6]; try omega
        · simp [h3, h4]
    · simp only [decide_eq_false h2]
      rw [if_neg (by simp), if_pos (by omega)]
  · rw [if_neg h1]
    simp only [Option.bind_some]
    rw [if_neg (by simp), if_pos (by omega)]

/-- The class of a number: the least class that is not below it. -/
def rgClass (n : Int) : Int := ((room_ClassOf.f 60 n).getD (0, 0)).1
theorem rg_class (n : Int) (h0 : 0 ≤ n) (h1 : n ≤ 100000) (k : Nat) (hk : 60 ≤ k) : room_ClassOf.f k n = some (rgClass n, 0) ∧ n ≤ rgClass n ∧ rgClass n ≤ 100000 := by
  obtain ⟨c, h2, h⟩ := rc_class n h0 h1
  have : rgClass n = c := by unfold rgClass; rw [h2 60 (by omega)]; rfl
  rw [this]
  exact ⟨h2 k hk, h.1, h.2.1⟩

theorem rg_mul (s : Int) (q : Int) (h : q ≤ 200000) (hs : 1 ≤ s) (hs2 : s ≤ 100000) (h0 : 0 ≤ q) : 0 ≤ q * s ∧ q * s ≤ 20000000000 := by
  refine ⟨Int.mul_nonneg h0 (by omega), ?_⟩
  calc q * s ≤ 200000 * s := Int.mul_le_mul_of_nonneg_right h (by omega)
    _ ≤ 20000000000 := by omega

/-- What a policy wishes. -/
def rgWish (k s room need : Int) : Int := if k = 2 then (need + s - 1) / s * s else if k = 3 then mx need (room + room / 2) else if k = 4 then mx need (2 * room) else if k = 5 then rgClass need else need

theorem rg_steps (need s : Int) (h0 : 0 ≤ need) (h1 : need ≤ 100000) (hs : 1 ≤ s) (hs2 : s ≤ 100000) :
    wrap64 ((wrap64 (Int.tdiv (wrap64 ((wrap64 (need + s)) - 1)) s)) * s) = (need + s - 1) / s * s ∧ need ≤ (need + s - 1) / s * s := by
  have hd : Int.tdiv (need + s - 1) s = (need + s - 1) / s := Int.tdiv_eq_ediv_of_nonneg (by omega)
  have hq0 : 0 ≤ (need + s - 1) / s := Int.ediv_nonneg (by omega) (by omega)
  have hq1 : (need + s - 1) / s ≤ need + s - 1 := Int.ediv_le_self _ (by omega)
  have hb := rg_mul s ((need + s - 1) / s) (by omega) hs hs2 hq0
  rw [rc_wrap_in (need + s) (by omega) (by omega), rc_wrap_in (need + s - 1) (by omega) (by omega), hd, rc_wrap_in ((need + s - 1) / s) (by omega) (by omega), rc_wrap_in ((need + s - 1) / s * s) (by omega) (by omega)]
  refine ⟨rfl, ?_⟩
  have e := Int.mul_ediv_add_emod (need + s - 1) s
  have hm := Int.emod_lt_of_pos (need + s - 1) (by omega : 0 < s)
  rw [Int.mul_comm] at e
  omega

theorem rg_wish (n : Nat) (hn : 60 ≤ n) (k s m room need : Int) (hp : rgFault k s m = 0) (h0 : 0 ≤ room) (h1 : room ≤ 100000) (h2 : 0 ≤ need) (h3 : need ≤ 100000) :
    room_wish.f n k s m room need = some (rgWish k s room need) := by
  have hr := rg_right hp
  unfold room_wish.f rgWish
  by_cases e2 : k = 2
  · have := hr.2.2.1 e2
    rw [if_pos e2, if_pos e2, if_neg (by omega), (rg_steps need s h2 h3 (by omega) (by omega)).1]
  · rw [if_neg e2, if_neg e2]
    have hd : Int.tdiv room 2 = room / 2 := Int.tdiv_eq_ediv_of_nonneg h0
    by_cases e3 : k = 3
    · rw [if_pos e3, if_pos e3, hd, rc_wrap_in (room / 2) (by omega) (by omega), rc_wrap_in _ (by omega) (by omega)]
    · rw [if_neg e3, if_neg e3]
      by_cases e4 : k = 4
      · rw [if_pos e4, if_pos e4, rc_wrap_in _ (by omega) (by omega)]
      · rw [if_neg e4, if_neg e4]
        by_cases e5 : k = 5
        · rw [if_pos e5, if_pos e5, (rg_class need h2 h3 n hn).1]; rfl
        · rw [if_neg e5, if_neg e5]

theorem rg_wish_le (k s m room need : Int) (hp : rgFault k s m = 0) (h2 : 0 ≤ need) (h3 : need ≤ 100000) : need ≤ rgWish k s room need := by
  have hr := rg_right hp
  unfold rgWish
  split
  · have := hr.2.2.1 (by assumption)
    exact (rg_steps need s h2 h3 (by omega) (by omega)).2
  · split
    · unfold mx; split <;> omega
    · split
      · unfold mx; split <;> omega
      · split
        · exact (rg_class need h2 h3 60 (by omega)).2.1
        · omega

/-- The room of a container with some room that needs some octets, and the error. -/
def rgGrow (k s m room need : Int) : Int × Int :=
  if rgFault k s m ≠ 0 then (0, rgFault k s m) else if room < 0 ∨ room > 100000 ∨ need < 0 ∨ need > 100000 then (0, 2)
  else if need ≤ room then (room, 0) else if need > m then (0, 12) else (mn (rgWish k s room need) m, 0)

theorem rg_grow (n : Nat) (hn : 70 ≤ n) (k s m room need : Int) : room_Grow.f n k s m room need = some (rgGrow k s m room need) := by
  unfold room_Grow.f rgGrow
  rw [rg_check n (by omega)]
  simp only [Option.bind_some]
  by_cases hp : rgFault k s m = 0
  · rw [if_pos hp, if_neg (show ¬ (rgFault k s m ≠ 0) by omega)]
    obtain ⟨n, rfl⟩ : ∃ j, n = j + 1 := ⟨n - 1, by omega⟩
    simp only [room_within.f, room_Grow.j0]
    by_cases h0 : room ≥ 0
    · rw [if_pos h0]
      by_cases h1 : room ≤ 100000
      · simp only [Option.bind_some, decide_eq_true h1, if_true]
        by_cases h2 : need ≥ 0
        · rw [if_pos h2]
          by_cases h3 : need ≤ 100000
          · simp only [Option.bind_some, decide_eq_true h3]
            rw [if_neg (by simp), if_neg (show ¬(room < 0 ∨ room > 100000 ∨ need < 0 ∨ need > 100000) by omega)]
            by_cases h4 : need ≤ room
            · rw [if_pos h4, if_pos h4]
            · rw [if_neg h4, if_neg h4]
              by_cases h5 : need > m
              · rw [if_pos h5, if_pos h5]
              · rw [if_neg h5, if_neg h5, rg_wish n (by omega) k s m room need hp h0 h1 h2 h3]; rfl
          · simp only [Option.bind_some, decide_eq_false h3]
            rw [if_pos (by simp), if_pos (show (room < 0 ∨ room > 100000 ∨ need < 0 ∨ need > 100000) by omega)]
        · rw [if_neg h2]
          simp only [Option.bind_some]
          rw [if_pos (by simp), if_pos (show (room < 0 ∨ room > 100000 ∨ need < 0 ∨ need > 100000) by omega)]
      · simp only [Option.bind_some, decide_eq_false h1]
        rw [if_neg (by simp)]
        simp only [if_true]
        rw [if_pos (show (room < 0 ∨ room > 100000 ∨ need < 0 ∨ need > 100000) by omega)]
    · rw [if_neg h0]
      simp only [Option.bind_some]
      rw [if_neg (by simp)]
      simp only [if_true]
      rw [if_pos (show (room < 0 ∨ room > 100000 ∨ need < 0 ∨ need > 100000) by omega)]
  · rw [if_neg hp, if_pos hp]

theorem rg_grow_le (k s m room need : Int) (h : (rgGrow k s m room need).2 = 0) : need ≤ (rgGrow k s m room need).1 ∧ (room ≤ (rgGrow k s m room need).1) ∧ 0 ≤ need ∧ 0 ≤ room ∧ need ≤ 100000 ∧ room ≤ 100000 ∧ (rgGrow k s m room need).1 ≤ 100000 ∧ rgFault k s m = 0 := by
  unfold rgGrow at h ⊢
  split at h
  · rename_i h'; exact absurd h (by simpa using h')
  · rename_i hp
    have hp : rgFault k s m = 0 := by omega
    have hr := rg_right hp
    rw [if_neg (by omega)]
    split at h
    · simp at h
    · rename_i hb
      rw [if_neg hb]
      split at h
      · rename_i hl; rw [if_pos hl]; simp; omega
      · rename_i hl
        rw [if_neg hl]
        split at h
        · simp at h
        · rename_i hm
          rw [if_neg hm]
          have hw := rg_wish_le k s m room need hp (by omega) (by omega)
          simp only
          refine ⟨?_, ?_, by omega, by omega, by omega, by omega, ?_, hp⟩
          · unfold mn; split <;> omega
          · unfold mn; split <;> omega
          · unfold mn; split <;> omega

end Go.Proofs.Yticbjaclnneaoaa.Pure
