/- The statement on CheckClasses and NewCache: what they return is what is specified, for all owners, classes and slots. -/
import Derived.Test.YtancgipidbojkaaMadeMove
import Derived.WalkSpells
namespace Go.Proofs.Ytancgipidbojkaa.Made
open Go.RowKit Go.Proofs.YtancgipidbojkaaW.PrintWords Go.Proofs.YtancgipidbojkaaW.PrintLast Go.Proofs.YtancgipidbojkaaW.PrintMore Go.Proofs.Ytancgipidbojkaa.Book Go.Proofs.Ytancgipidbojkaa.Policy

set_option maxRecDepth 100000 in
theorem withinSlab (a lo hi : Int) (w : World) : Calls Try.prog 68 #[.int .i64 a, .int .i64 lo, .int .i64 hi] w fun e w' => e = .returned (.bool (decide (lo ≤ a ∧ a ≤ hi))) ∧ w = w' := by
  by_cases h1 : lo ≤ a
  · by_cases h2 : a ≤ hi
    · go_enter Try.func68, Try.ntmps68
      go_wp2
      go_ret
      exact ⟨by simp [h1, h2], rfl⟩
    · go_enter Try.func68, Try.ntmps68
      go_wp2
      go_ret
      exact ⟨by simp [h2], rfl⟩
  · have h1 : a < lo := by omega
    go_enter Try.func68, Try.ntmps68
    go_wp2
    go_ret
    exact ⟨by simp; omega, rfl⟩


/-- What is wrong with class i. -/
def badAt (xs : List Int) (i : Nat) : Int := if ¬ (1 ≤ rd xs i ∧ rd xs i ≤ 4096) then 2 else if 0 < i ∧ rd xs i ≤ rd xs ((i : Int) - 1) then 5 else 0
/-- The first error from class i on, of so many. -/
def firstErr (xs : List Int) : Nat → Nat → Int
  | 0, _ => 0
  | d + 1, i => if badAt xs i ≠ 0 then badAt xs i else firstErr xs d (i + 1)
/-- The error of size classes. -/
def clsErr (xs : List Int) : Int := if xs.length < 1 ∨ 20 < xs.length then 4 else firstErr xs xs.length 0

theorem infoI : (Try.prog.info? 3).map (fun i => (i.zero, i.size, i.bytes)) = some (some (.int .i64 0), 1, 8) := by kernel_rfl

set_option maxRecDepth 100000 in
theorem clone (A : Option Addr) (n c : Nat) (xs : List Int) (w : World) (hr : ReadsInt w .i64 A n xs) (hn : n ≤ 1000000) :
    Calls Try.prog 62 #[.slice A n c] w fun e w' => ∃ v, e = .returned v ∧ Kd.R (Kd.int .i64) 3 w' w.heap.size (fun _ => True) v xs ∧ Below w.heap.size w w' := by
  have hnil := fun w => @Lib.run_eql_slice_nil Try.prog w 22 3 A n c 0 0 Try.underlying22
  cases A with
  | none =>
    have h0 : n = 0 := by
      by_cases h : 0 < n
      · obtain ⟨ad, h1, _⟩ := hr.2.2 h; cases h1
      · omega
    have hxs : xs = [] := List.length_eq_zero_iff.1 (hr.1.trans h0)
    subst h0 hxs
    go_enter Try.func62, Try.ntmps62
    go_wp2
    go_ret
    exact ⟨_, rfl, Kd.R_nil _ _ _ _ _, Below.refl _ _⟩
  | some ad =>
    go_enter Try.func62, Try.ntmps62
    go_wp2_with (first | (at_builtin; refine print_append_row (w0 := w) w.heap.size rfl (.tmp 5) (.tmp 6) 22 3 .i64 8 rfl Try.underlying22 infoI (by decide) _ [] xs (some ad) n c rfl rfl (own_lit w w.heap.size 3 .i64 [] (Nat.le_refl _) (by simp)) (hr.below (below_alloc (Below.refl _ _) _)) (below_alloc (Below.refl _ _) _) (by simp) (by simp; omega) ?_; intro v1 w1 ho hb hg hat; have HO := Aside0.mk ho; have HB := Aside0.mk hb; clear ho hb hg hat))
    go_ret
    exact ⟨_, rfl, Kd.R_of_own HO.out (fun _ _ => trivial), HB.out⟩

set_option maxHeartbeats 4000000 in
set_option maxRecDepth 100000 in
theorem checkClasses (A : Option Addr) (n c : Nat) (xs : List Int) (w : World) (hr : ReadsInt w .i64 A n xs) :
    Calls Try.prog 38 #[.slice A n c] w fun e w' => e = .returned (.int .i64 (clsErr xs)) ∧ w = w' := by
  have hlen := hr.1
  have hmax := hr.2.1
  by_cases hl : 1 ≤ n ∧ n ≤ 20
  case neg =>
    have hl' : decide (1 ≤ (n : Int) ∧ (n : Int) ≤ 20) = false := decide_eq_false (by omega)
    have h : clsErr xs = 4 := by unfold clsErr; rw [if_pos (by omega)]
    rw [h]; clear h
    go_enter Try.func38, Try.ntmps38
    go_wp2_with (first | (go_at_call 68; refine (withinSlab _ _ _ _).mono ?_; rintro e w' ⟨rfl, rfl⟩))
    go_ret
    exact ⟨rfl, rfl⟩
  have hl' : decide (1 ≤ (n : Int) ∧ (n : Int) ≤ 20) = true := decide_eq_true (by omega)
  have hl1'' : 1 ≤ n := hl.1
  have hl2'' : n ≤ 20 := hl.2
  clear hl
  have hE : clsErr xs = firstErr xs (n - 0) 0 := by unfold clsErr; rw [if_neg (by omega), hlen]; rfl
  have HE := Lib.hid hE
  have HL := Lib.hid hlen
  clear hE hlen
  go_enter Try.func38, Try.ntmps38
  go_wp2_with (first | (go_at_call 68; refine (withinSlab _ _ _ _).mono ?_; rintro e w' ⟨rfl, rfl⟩))
  go_loop [3, 4, 11] (fun _ _ i => ∃ k : Nat, k ≤ n ∧ i = .int .i64 k ∧ Aside0 (clsErr xs = firstErr xs (n - k) k)) (fun _ _ i => n - (intOf i).toNat)
  case atStart => exact ⟨0, Nat.zero_le _, rfl, ⟨HE.out⟩⟩
  case round =>
    obtain ⟨k, hk, rfl, HK⟩ := hrel
    by_cases hlt : k < n
    · obtain ⟨d, hd⟩ : ∃ d, n - k = d + 1 := ⟨n - k - 1, by omega⟩
      have hstep : clsErr xs = if badAt xs k ≠ 0 then badAt xs k else firstErr xs d (k + 1) := by rw [HK.out, hd]; rfl
      have hnext : n - (k + 1) = d := by omega
      have HN := Lib.hid hnext
      have HS := Lib.hid hstep
      clear hstep hnext hd HK
      obtain ⟨ad, rfl, hc⟩ := hr.at_ k (by omega) (by omega)
      rw [Int.toNat_natCast] at hc
      by_cases h1 : 1 ≤ rd xs k ∧ rd xs k ≤ 4096
      case neg =>
        have h1' : decide (1 ≤ rd xs k ∧ rd xs k ≤ 4096) = false := decide_eq_false h1
        have hb : badAt xs k = 2 := by unfold badAt; rw [if_pos h1]
        have HB : Hid (clsErr xs = 2) := Lib.hid (by rw [HS.out, if_pos (by rw [hb]; decide), hb])
        clear hb
        go_wp2_with (first | (go_at_call 68; refine (withinSlab _ _ _ _).mono ?_; rintro e w' ⟨rfl, rfl⟩))
        go_ret
        exact ⟨by rw [HB.out]; rfl, rfl⟩
      have h1' : decide (1 ≤ rd xs k ∧ rd xs k ≤ 4096) = true := decide_eq_true h1
      by_cases hk0 : k = 0
      · have hz : decide (0 < k) = false := by simp; omega
        have hb : badAt xs k = 0 := by unfold badAt; rw [if_neg (by omega), if_neg (by omega)]
        have HB : Hid (clsErr xs = firstErr xs (n - (k + 1)) (k + 1)) := Lib.hid (by rw [HS.out, if_neg (by rw [hb]; decide), HN.out])
        clear hb hk0
        go_wp2_with (first | (go_at_call 68; refine (withinSlab _ _ _ _).mono ?_; rintro e w' ⟨rfl, rfl⟩))
        go_round
        case rel => exact ⟨k + 1, by omega, by go_num, ⟨HB.out⟩⟩
        case measure => simp [intOf]; omega
      have hz : decide ((0 : Int) < (k : Int)) = true := by simp; omega
      have hk1 : 1 ≤ (k : Int) := by omega
      have hk1' : (k : Int) - 1 < n := by omega
      obtain ⟨ad', he, hc'⟩ := hr.at_ ((k : Int) - 1) (by omega) (by omega)
      obtain rfl : ad = ad' := Option.some.inj he
      rw [show ((k : Int) - 1).toNat = k - 1 by omega] at hc'
      clear he
      by_cases h3 : rd xs (k : Int) ≤ rd xs ((k : Int) - 1)
      · have h3' : decide (rd xs (k : Int) ≤ rd xs ((k : Int) - 1)) = true := decide_eq_true h3
        have hb : badAt xs k = 5 := by unfold badAt; rw [if_neg (by omega), if_pos ⟨by omega, h3⟩]
        have HB : Hid (clsErr xs = 5) := Lib.hid (by rw [HS.out, if_pos (by rw [hb]; decide), hb])
        clear hb
        go_wp2_with (first | (go_at_call 68; refine (withinSlab _ _ _ _).mono ?_; rintro e w' ⟨rfl, rfl⟩))
        go_ret
        exact ⟨by rw [HB.out]; rfl, rfl⟩
      have h3' : decide (rd xs (k : Int) ≤ rd xs ((k : Int) - 1)) = false := decide_eq_false h3
      have hb : badAt xs k = 0 := by unfold badAt; rw [if_neg (by omega), if_neg (fun h => h3 h.2)]
      have HB : Hid (clsErr xs = firstErr xs (n - (k + 1)) (k + 1)) := Lib.hid (by rw [HS.out, if_neg (by rw [hb]; decide), HN.out])
      clear hb
      go_wp2_with (first | (go_at_call 68; refine (withinSlab _ _ _ _).mono ?_; rintro e w' ⟨rfl, rfl⟩))
      go_round
      case rel => exact ⟨k + 1, by omega, by go_num, ⟨HB.out⟩⟩
      case measure => simp [intOf]; omega
    · have hk2 : n ≤ k := by omega
      have h0 : clsErr xs = 0 := by rw [HK.out, show n - k = 0 by omega]; rfl
      have H0 := Lib.hid h0
      clear h0
      go_wp2_with (first | (go_at_call 68; refine (withinSlab _ _ _ _).mono ?_; rintro e w' ⟨rfl, rfl⟩))
      go_ret
      exact ⟨by rw [H0.out]; rfl, rfl⟩

set_option maxHeartbeats 4000000 in
set_option maxRecDepth 100000 in
theorem classesError (A : Option Addr) (n c : Nat) (xs : List Int) (w : World) (hr : ReadsInt w .i64 A n xs) :
    Calls Try.prog 37 #[.slice A n c] w fun e w' => e = .returned (.int .i64 (clsErr xs)) ∧ w = w' := by
  have hlen := hr.1
  have hmax := hr.2.1
  by_cases hl1 : n < 1
  · have hl1' : decide ((n : Int) < 1) = true := by simp; omega
    have h : clsErr xs = 4 := by unfold clsErr; rw [if_pos (by omega)]
    rw [h]; clear h
    go_enter Try.func37, Try.ntmps37
    go_wp2
    go_ret
    exact ⟨rfl, rfl⟩
  have hl1' : decide ((n : Int) < 1) = false := by simp; omega
  have hl1'' : 1 ≤ n := by omega
  by_cases hl2 : 20 < n
  · have hl2' : decide (20 < (n : Int)) = true := by simp; omega
    have h : clsErr xs = 4 := by unfold clsErr; rw [if_pos (by omega)]
    rw [h]; clear h
    go_enter Try.func37, Try.ntmps37
    go_wp2
    go_ret
    exact ⟨rfl, rfl⟩
  have hl2' : decide (20 < (n : Int)) = false := by simp; omega
  have hl2'' : n ≤ 20 := by omega
  have hE : clsErr xs = firstErr xs (n - 0) 0 := by unfold clsErr; rw [if_neg (by omega), hlen]; rfl
  have HE := Lib.hid hE
  have HL := Lib.hid hlen
  clear hE hlen
  go_enter Try.func37, Try.ntmps37
  go_wp2
  go_loop [3, 4, 15] (fun _ _ i => ∃ k : Nat, k ≤ n ∧ i = .int .i64 k ∧ Aside0 (clsErr xs = firstErr xs (n - k) k)) (fun _ _ i => n - (intOf i).toNat)
  case atStart => exact ⟨0, Nat.zero_le _, rfl, ⟨HE.out⟩⟩
  case round =>
    obtain ⟨k, hk, rfl, HK⟩ := hrel
    by_cases hlt : k < n
    · obtain ⟨d, hd⟩ : ∃ d, n - k = d + 1 := ⟨n - k - 1, by omega⟩
      have hstep : clsErr xs = if badAt xs k ≠ 0 then badAt xs k else firstErr xs d (k + 1) := by rw [HK.out, hd]; rfl
      have hnext : n - (k + 1) = d := by omega
      have HN := Lib.hid hnext
      have HS := Lib.hid hstep
      clear hstep hnext hd HK
      obtain ⟨ad, rfl, hc⟩ := hr.at_ k (by omega) (by omega)
      rw [Int.toNat_natCast] at hc
      by_cases h1 : rd xs k < 1
      · have h1' : decide (rd xs k < 1) = true := decide_eq_true h1
        have hb : badAt xs k = 2 := by unfold badAt; rw [if_pos (by omega)]
        have HB : Hid (clsErr xs = 2) := Lib.hid (by rw [HS.out, if_pos (by rw [hb]; decide), hb])
        clear hb
        go_wp2
        go_ret
        exact ⟨by rw [HB.out]; rfl, rfl⟩
      have h1' : 1 ≤ rd xs k := by omega
      by_cases h2 : 4096 < rd xs k
      · have h2' : decide (4096 < rd xs k) = true := decide_eq_true h2
        have hb : badAt xs k = 2 := by unfold badAt; rw [if_pos (by omega)]
        have HB : Hid (clsErr xs = 2) := Lib.hid (by rw [HS.out, if_pos (by rw [hb]; decide), hb])
        clear hb
        go_wp2
        go_ret
        exact ⟨by rw [HB.out]; rfl, rfl⟩
      have h2' : rd xs k ≤ 4096 := by omega
      by_cases hk0 : k = 0
      · have hz : decide (0 < k) = false := by simp; omega
        have hb : badAt xs k = 0 := by unfold badAt; rw [if_neg (by omega), if_neg (by omega)]
        have HB : Hid (clsErr xs = firstErr xs (n - (k + 1)) (k + 1)) := Lib.hid (by rw [HS.out, if_neg (by rw [hb]; decide), HN.out])
        clear hb hk0
        go_wp2
        go_round
        case rel => exact ⟨k + 1, by omega, by go_num, ⟨HB.out⟩⟩
        case measure => simp [intOf]; omega
      have hz : decide ((0 : Int) < (k : Int)) = true := by simp; omega
      have hk1 : 1 ≤ (k : Int) := by omega
      have hk1' : (k : Int) - 1 < n := by omega
      obtain ⟨ad', he, hc'⟩ := hr.at_ ((k : Int) - 1) (by omega) (by omega)
      obtain rfl : ad = ad' := Option.some.inj he
      rw [show ((k : Int) - 1).toNat = k - 1 by omega] at hc'
      clear he
      by_cases h3 : rd xs (k : Int) ≤ rd xs ((k : Int) - 1)
      · have h3' : decide (rd xs (k : Int) ≤ rd xs ((k : Int) - 1)) = true := decide_eq_true h3
        have hb : badAt xs k = 5 := by unfold badAt; rw [if_neg (by omega), if_pos ⟨by omega, h3⟩]
        have HB : Hid (clsErr xs = 5) := Lib.hid (by rw [HS.out, if_pos (by rw [hb]; decide), hb])
        clear hb
        go_wp2
        go_ret
        exact ⟨by rw [HB.out]; rfl, rfl⟩
      have h3' : decide (rd xs (k : Int) ≤ rd xs ((k : Int) - 1)) = false := decide_eq_false h3
      have hb : badAt xs k = 0 := by unfold badAt; rw [if_neg (by omega), if_neg (fun h => h3 h.2)]
      have HB : Hid (clsErr xs = firstErr xs (n - (k + 1)) (k + 1)) := Lib.hid (by rw [HS.out, if_neg (by rw [hb]; decide), HN.out])
      clear hb
      go_wp2
      go_round
      case rel => exact ⟨k + 1, by omega, by go_num, ⟨HB.out⟩⟩
      case measure => simp [intOf]; omega
    · have hk2 : n ≤ k := by omega
      have h0 : clsErr xs = 0 := by rw [HK.out, show n - k = 0 by omega]; rfl
      have H0 := Lib.hid h0
      clear h0
      go_wp2
      go_ret
      exact ⟨by rw [H0.out]; rfl, rfl⟩

end Go.Proofs.Ytancgipidbojkaa.Made
