/- Fair: what it returns, for all whole numbers. -/
import Derived.Test.YtancgipidbojkaaFairSum
namespace Go.Proofs.Ytancgipidbojkaa.Fair
open Go.RowKit Go.Proofs.YtancgipidbojkaaW.PrintWords Go.Proofs.YtancgipidbojkaaW.PrintLast Go.Proofs.YtancgipidbojkaaW.PrintMore
attribute [local go_sem] max2_int min2_int max_two min_two
theorem info3 : (Try.prog.info? 3).map (fun i => (i.zero, i.size, i.bytes)) = some (some (.int .i64 0), 1, 8) := by kernel_rfl

set_option maxRecDepth 100000 in
theorem within58 (a lo hi : Int) (w : World) : Calls Try.prog 58 #[.int .i64 a, .int .i64 lo, .int .i64 hi] w fun e w' => e = .returned (.bool (decide (lo ≤ a ∧ a ≤ hi))) ∧ w = w' := by
  by_cases h1 : lo ≤ a
  · by_cases h2 : a ≤ hi
    · go_enter Try.func58, Try.ntmps58
      go_wp2
      go_ret
      exact ⟨by simp [h1, h2], rfl⟩
    · go_enter Try.func58, Try.ntmps58
      go_wp2
      go_ret
      exact ⟨by simp [h2], rfl⟩
  · have h1 : a < lo := by omega
    go_enter Try.func58, Try.ntmps58
    go_wp2
    go_ret
    exact ⟨by simp; omega, rfl⟩

theorem sumAt_zero (xs : List Int) (h : ∀ x ∈ xs, 0 ≤ x) : sumAt 0 xs = 0 := by
  induction xs with
  | nil => rfl
  | cons y ys ih =>
    have := h y (by simp)
    rw [sumAt, ih (fun x hx => h x (by simp [hx]))]; unfold mn; split <;> omega
theorem sumAt_mono (xs : List Int) (a b : Int) (h : a ≤ b) : sumAt a xs ≤ sumAt b xs := by
  induction xs with
  | nil => exact Int.le_refl _
  | cons y ys ih =>
    simp only [sumAt, mn]
    split <;> split <;> omega
/-- What one gets: the rest goes, one each, to those that want more than the level. -/
def give (level : Int) (acc : List Int × Int) (x : Int) : List Int × Int :=
  if level < x ∧ 0 < acc.2 then (acc.1 ++ [mn x level + 1], acc.2 - 1) else (acc.1 ++ [mn x level], acc.2)
def gives (level rest : Int) (xs : List Int) : List Int × Int := xs.foldl (give level) ([], rest)
theorem gives_snoc (level rest : Int) (xs : List Int) (x : Int) : gives level rest (xs ++ [x]) = give level (gives level rest xs) x := by simp [gives]
theorem gives_len (level rest : Int) (xs : List Int) : (gives level rest xs).1.length = xs.length := by
  suffices h : ∀ (ys : List Int) (acc : List Int × Int), (ys.foldl (give level) acc).1.length = acc.1.length + ys.length by
    have := h xs ([], rest); simpa [gives] using this
  intro ys
  induction ys with
  | nil => intro acc; rfl
  | cons y ys ih => intro acc; rw [List.foldl_cons, ih]; unfold give; split <;> simp <;> omega

theorem gives_rest (level rest : Int) (h : 0 ≤ rest) (xs : List Int) : 0 ≤ (gives level rest xs).2 ∧ (gives level rest xs).2 ≤ rest := by
  suffices h : ∀ (ys : List Int) (acc : List Int × Int), 0 ≤ acc.2 → 0 ≤ (ys.foldl (give level) acc).2 ∧ (ys.foldl (give level) acc).2 ≤ acc.2 by
    exact h xs ([], rest) ‹_›
  intro ys
  induction ys with
  | nil => intro acc h; exact ⟨h, Int.le_refl _⟩
  | cons y ys ih =>
    intro acc h
    rw [List.foldl_cons]
    have h2 : 0 ≤ (give level acc y).2 ∧ (give level acc y).2 ≤ acc.2 := by
      unfold give; split
      · simp; omega
      · simp; omega
    have := ih (give level acc y) h2.1
    omega
set_option maxHeartbeats 4000000 in
set_option maxRecDepth 100000 in
theorem fair_ok (budget : Int) (A : Option Addr) (n c : Nat) (xs : List Int) (w : World) (hb0 : 0 ≤ budget) (hb1 : budget ≤ 10000000)
    (hr : ReadsInt w .i64 A n xs) (hn : n ≤ 1000) (hx : ∀ x ∈ xs, 0 ≤ x ∧ x ≤ 10000000) :
    Calls Try.prog 26 #[.int .i64 budget, .slice A n c] w fun e w' => ∃ (level : Int) (v : Value), e = .returned (.tuple #[v, .int .i64 0]) ∧
      Kd.R (Kd.int .i64) 3 w' w.heap.size (fun _ => True) v (gives level (budget - sumAt level xs) xs).1 ∧ Below w.heap.size w w' ∧
      0 ≤ level ∧ level ≤ 10000000 ∧ sumAt level xs ≤ budget ∧ (∀ l, level < l → l ≤ 10000000 → budget < sumAt l xs) := by
  have hlen := hr.1
  have HX := Lib.hid hx
  have HL := Lib.hid hlen
  clear hx hlen
  have hd : decide (1000 < (n : Int)) = false := by simp; omega
  have hra : ReadsInt (w.alloc (.cells #[.slice A n c] 22)) .i64 A n xs := hr.below (below_alloc (Below.refl _ _) _)
  have hpa : Aside0 ((w.alloc (.cells #[.slice A n c] 22)).cell? ⟨w.heap.size, 0, none⟩ = some (.slice A n c)) := ⟨by rw [blk_cell (blk_new w _)]; rfl⟩
  have hba : Aside0 (Below w.heap.size w (w.alloc (.cells #[.slice A n c] 22))) := ⟨below_alloc (Below.refl _ _) _⟩
  go_enter Try.func26, Try.ntmps26
  go_wp2_with (first | (go_at_call 58; refine (within58 _ _ _ _).mono ?_; rintro e w' ⟨rfl, rfl⟩))
  go_loop [7, 27] (fun _ i => ∃ k : Nat, k ≤ n ∧ i = .int .i64 k) (fun _ i => n - (intOf i).toNat)
  case atStart => exact ⟨0, Nat.zero_le _, rfl⟩
  case round =>
    obtain ⟨k, hk, rfl⟩ := hrel
    by_cases hlt : k < n
    · obtain ⟨ad, rfl, hc⟩ := hra.at_ k (by omega) (by omega)
      rw [Int.toNat_natCast] at hc
      have hv := HX.out (rd xs k) (by rw [rd, Int.toNat_natCast, List.getD_eq_getElem?_getD, List.getElem?_eq_getElem (by rw [HL.out]; exact hlt)]; exact List.getElem_mem _)
      go_wp2_with (first | (go_at_call 58; refine (within58 _ _ _ _).mono ?_; rintro e w' ⟨rfl, rfl⟩))
      go_round
      case rel => exact ⟨k + 1, by omega, by go_num⟩
      case measure => simp [intOf]; omega
    · have hk2 : n ≤ k := by omega
      go_wp2
      go_loop [9, 10, 11] (fun lo hi _ => ∃ l h : Int, lo = .int .i64 l ∧ hi = .int .i64 h ∧ 0 ≤ l ∧ l ≤ h ∧ h ≤ 10000000 ∧ Aside0 (sumAt l xs ≤ budget ∧ ∀ m, h < m → m ≤ 10000000 → budget < sumAt m xs)) (fun lo hi _ => (intOf hi - intOf lo).toNat)
      case atStart => exact ⟨0, 10000000, rfl, rfl, by omega, by omega, by omega, ⟨by rw [sumAt_zero _ (fun x hx => (HX.out x hx).1)]; exact hb0, fun m h1 h2 => by omega⟩⟩
      case round =>
        obtain ⟨l, h, rfl, rfl, hl0, hlh, hh1, HS⟩ := hrel
        by_cases hlt : l < h
        · have hq : Int.tdiv (l + h + 1) 2 = (l + h + 1) / 2 := Int.tdiv_eq_ediv_of_nonneg (by omega)
          by_cases hs : sumAt ((l + h + 1) / 2) xs ≤ budget
          · have hsb : decide (sumAt ((l + h + 1) / 2) xs ≤ budget) = true := decide_eq_true hs
            go_wp2_with (first | (go_at_call 59; refine (sum59 _ _ _ n c xs _ (by omega) (by omega) hpa.out hra hn HX.out).mono ?_; rintro e w' ⟨rfl, rfl⟩))
            go_round
            case rel => exact ⟨_, h, rfl, rfl, by omega, by omega, by omega, ⟨hs, HS.out.2⟩⟩
            case measure => simp [intOf]; omega
          · have hsb : decide (sumAt ((l + h + 1) / 2) xs ≤ budget) = false := decide_eq_false hs
            go_wp2_with (first | (go_at_call 59; refine (sum59 _ _ _ n c xs _ (by omega) (by omega) hpa.out hra hn HX.out).mono ?_; rintro e w' ⟨rfl, rfl⟩))
            go_round
            case rel => exact ⟨l, _, rfl, rfl, by omega, by omega, by omega, ⟨HS.out.1, fun m h1 h2 => by
              have := sumAt_mono xs ((l + h + 1) / 2) m (by omega); omega⟩⟩
            case measure => simp [intOf]; omega
        · obtain rfl : l = h := by omega
          have hsr := sumAt_range l (by omega) (by omega) xs (fun x hx => (HX.out x hx).1)
          rw [HL.out] at hsr
          have hsb : sumAt l xs ≤ budget := HS.out.1
          go_wp2_with (first | (go_at_call 59; refine (sum59 _ _ _ n c xs _ (by omega) (by omega) hpa.out hra hn HX.out).mono ?_; rintro e w' ⟨rfl, rfl⟩))
          go_loopw [12, 13, 15, 16, 59] (fun r v _ _ i wr => ∃ k : Nat, k ≤ n ∧ i = .int .i64 k ∧ r = .int .i64 (gives l (budget - sumAt l xs) (xs.take k)).2 ∧ Aside0 (Kd.R (Kd.int .i64) 3 wr w.heap.size (fun _ => True) v (gives l (budget - sumAt l xs) (xs.take k)).1) ∧ Aside0 (Below w.heap.size w wr)) (fun _ _ _ _ i _ => n - (intOf i).toNat)
          case atStart => exact ⟨0, Nat.zero_le _, rfl, rfl, ⟨Kd.R_nil _ _ _ _ _⟩, hba⟩
          case round =>
            obtain ⟨k, hk, rfl, rfl, HR, HB⟩ := hrel
            have hg := gives_rest l (budget - sumAt l xs) (by omega) (xs.take k)
            have hlk := gives_len l (budget - sumAt l xs) (xs.take k)
            rw [List.length_take, HL.out] at hlk
            have hlk2 : (gives l (budget - sumAt l xs) (xs.take k)).1.length ≤ 1000 := by omega
            clear hlk
            by_cases hlt : k < n
            · have hrk := hr.below HB.out
              obtain ⟨ad, rfl, hc⟩ := hrk.at_ k (by omega) (by omega)
              rw [Int.toNat_natCast] at hc
              clear hrk
              have hv := HX.out (rd xs k) (by rw [rd, Int.toNat_natCast, List.getD_eq_getElem?_getD, List.getElem?_eq_getElem (by rw [HL.out]; exact hlt)]; exact List.getElem_mem _)
              have hs : gives l (budget - sumAt l xs) (xs.take (k + 1)) = give l (gives l (budget - sumAt l xs) (xs.take k)) (rd xs k) := by rw [take_next xs k (by rw [HL.out]; exact hlt), gives_snoc]
              have HS2 := Lib.hid hs
              clear hs
              by_cases hw : l < rd xs k
              · have hmn : mn (rd xs k) l = l := by unfold mn; rw [if_pos hw]
                by_cases hz : 0 < (gives l (budget - sumAt l xs) (xs.take k)).2
                · have hgv : give l (gives l (budget - sumAt l xs) (xs.take k)) (rd xs k) = ((gives l (budget - sumAt l xs) (xs.take k)).1 ++ [l + 1], (gives l (budget - sumAt l xs) (xs.take k)).2 - 1) := by unfold give; rw [if_pos ⟨hw, hz⟩, hmn]
                  have HG := Lib.hid hgv
                  clear hgv hmn
                  go_wp2_with (first | (((with_reducible refine gate_builtin (b := .append) (xs := #[.tmp 77, .tmp 79]) rfl ?_); at_builtin; refine Kd.R_append (Kd.int .i64) (w0 := w) w.heap.size rfl (.tmp 77) (.tmp 79) 22 3 (.int .i64 0) 8 rfl Try.underlying22 info3 rfl (by decide) (by omega) _ (gives l (budget - sumAt l xs) (xs.take k)).1 (l + 1) [.int .i64 (l + 1)] (fun _ => True) (fun _ => False) rfl rfl ?aP (fun _ hk => hk.elim) ?aF ?aO ?aB ?aS ?aL ?_; (case aP => exact rfl); (case aB => exact (by repeat (first | (with_reducible first | exact HB.out | apply below_alloc | apply pw_below_drewN | apply below_drew1) | exact HB.out))); (case aF => exact (fun _ _ => trivial)); (case aO => exact (by (with_reducible repeat (first | apply Kd.R_alloc | apply Kd.R_drewN | apply Kd.R_drew)); exact HR.out)); (case aS => exact (below_size (by repeat (first | (with_reducible first | exact HB.out | apply below_alloc | apply pw_below_drewN | apply below_drew1) | exact HB.out)))); (case aL => omega); intro v1 w1 ho hb hg hat; have HO1 := Aside0.mk ho; have HB1 := Aside0.mk hb; clear ho hb hg hat)))
                  go_roundw
                  case rel => exact ⟨k + 1, by omega, by go_num, by rw [HS2.out]; rw [HG.out], ⟨by rw [HS2.out]; rw [HG.out]; exact HO1.out⟩, HB1⟩
                  case measure => simp [intOf]; omega
                · have hgv : give l (gives l (budget - sumAt l xs) (xs.take k)) (rd xs k) = ((gives l (budget - sumAt l xs) (xs.take k)).1 ++ [l], (gives l (budget - sumAt l xs) (xs.take k)).2) := by unfold give; rw [if_neg (fun h => hz h.2), hmn]
                  have HG := Lib.hid hgv
                  clear hgv hmn
                  go_wp2_with (first | (((with_reducible refine gate_builtin (b := .append) (xs := #[.tmp 77, .tmp 79]) rfl ?_); at_builtin; refine Kd.R_append (Kd.int .i64) (w0 := w) w.heap.size rfl (.tmp 77) (.tmp 79) 22 3 (.int .i64 0) 8 rfl Try.underlying22 info3 rfl (by decide) (by omega) _ (gives l (budget - sumAt l xs) (xs.take k)).1 l [.int .i64 l] (fun _ => True) (fun _ => False) rfl rfl ?aP (fun _ hk => hk.elim) ?aF ?aO ?aB ?aS ?aL ?_; (case aP => exact rfl); (case aB => exact (by repeat (first | (with_reducible first | exact HB.out | apply below_alloc | apply pw_below_drewN | apply below_drew1) | exact HB.out))); (case aF => exact (fun _ _ => trivial)); (case aO => exact (by (with_reducible repeat (first | apply Kd.R_alloc | apply Kd.R_drewN | apply Kd.R_drew)); exact HR.out)); (case aS => exact (below_size (by repeat (first | (with_reducible first | exact HB.out | apply below_alloc | apply pw_below_drewN | apply below_drew1) | exact HB.out)))); (case aL => omega); intro v1 w1 ho hb hg hat; have HO1 := Aside0.mk ho; have HB1 := Aside0.mk hb; clear ho hb hg hat)))
                  go_roundw
                  case rel => exact ⟨k + 1, by omega, by go_num, by rw [HS2.out]; rw [HG.out], ⟨by rw [HS2.out]; rw [HG.out]; exact HO1.out⟩, HB1⟩
                  case measure => simp [intOf]; omega
              · have hgv : give l (gives l (budget - sumAt l xs) (xs.take k)) (rd xs k) = ((gives l (budget - sumAt l xs) (xs.take k)).1 ++ [rd xs k], (gives l (budget - sumAt l xs) (xs.take k)).2) := by unfold give; rw [if_neg (fun h => hw h.1)]; unfold mn; rw [if_neg hw]
                have HG := Lib.hid hgv
                clear hgv
                go_wp2_with (first | (((with_reducible refine gate_builtin (b := .append) (xs := #[.tmp 77, .tmp 79]) rfl ?_); at_builtin; refine Kd.R_append (Kd.int .i64) (w0 := w) w.heap.size rfl (.tmp 77) (.tmp 79) 22 3 (.int .i64 0) 8 rfl Try.underlying22 info3 rfl (by decide) (by omega) _ (gives l (budget - sumAt l xs) (xs.take k)).1 (rd xs k) [.int .i64 (rd xs k)] (fun _ => True) (fun _ => False) rfl rfl ?aP (fun _ hk => hk.elim) ?aF ?aO ?aB ?aS ?aL ?_; (case aP => exact rfl); (case aB => exact (by repeat (first | (with_reducible first | exact HB.out | apply below_alloc | apply pw_below_drewN | apply below_drew1) | exact HB.out))); (case aF => exact (fun _ _ => trivial)); (case aO => exact (by (with_reducible repeat (first | apply Kd.R_alloc | apply Kd.R_drewN | apply Kd.R_drew)); exact HR.out)); (case aS => exact (below_size (by repeat (first | (with_reducible first | exact HB.out | apply below_alloc | apply pw_below_drewN | apply below_drew1) | exact HB.out)))); (case aL => omega); intro v1 w1 ho hb hg hat; have HO1 := Aside0.mk ho; have HB1 := Aside0.mk hb; clear ho hb hg hat)))
                go_roundw
                case rel => exact ⟨k + 1, by omega, by go_num, by rw [HS2.out]; rw [HG.out], ⟨by rw [HS2.out]; rw [HG.out]; exact HO1.out⟩, HB1⟩
                case measure => simp [intOf]; omega
            · have hk2 : n ≤ k := by omega
              go_wp2
              go_ret2
              rw [List.take_of_length_le (by rw [HL.out]; omega)] at HR
              exact ⟨l, _, rfl, HR.out, HB.out, by omega, by omega, HS.out.1, HS.out.2⟩

/-- A want that is beyond its bounds: the first one ends the call. -/
theorem nth_bad (xs : List Int) (h : ¬ ∀ x ∈ xs, 0 ≤ x ∧ x ≤ 10000000) : ∃ j, j < xs.length ∧ ¬ (0 ≤ rd xs j ∧ rd xs j ≤ 10000000) ∧ ∀ i, i < j → (0 ≤ rd xs i ∧ rd xs i ≤ 10000000) := by
  induction xs with
  | nil => exact absurd (fun x hx => by simp at hx) h
  | cons y ys ih =>
    by_cases hy : 0 ≤ y ∧ y ≤ 10000000
    · have : ¬ ∀ x ∈ ys, 0 ≤ x ∧ x ≤ 10000000 := fun hh => h (fun x hx => by
        rcases List.mem_cons.1 hx with rfl | hx
        · exact hy
        · exact hh x hx)
      obtain ⟨j, h1, h2, h3⟩ := ih this
      refine ⟨j + 1, by simpa using h1, by simpa [rd] using h2, fun i hi => ?_⟩
      cases i with
      | zero => simpa [rd] using hy
      | succ i => simpa [rd] using h3 i (by omega)
    · exact ⟨0, by simp, by simpa [rd] using hy, fun i hi => by omega⟩

set_option maxRecDepth 100000 in
theorem fair_range (budget : Int) (A : Option Addr) (n c : Nat) (w : World) (hb : ¬ (0 ≤ budget ∧ budget ≤ 10000000)) :
    Calls Try.prog 26 #[.int .i64 budget, .slice A n c] w fun e w' => e = .returned (.tuple #[.slice none 0 0, .int .i64 2]) ∧ Below w.heap.size w w' := by
  have hd : decide (0 ≤ budget ∧ budget ≤ 10000000) = false := decide_eq_false hb
  go_enter Try.func26, Try.ntmps26
  go_wp2_with (first | (go_at_call 58; refine (within58 _ _ _ _).mono ?_; rintro e w' ⟨rfl, rfl⟩; rw [hd]))
  go_ret2
  exact ⟨rfl, below_alloc (Below.refl _ _) _⟩

set_option maxRecDepth 100000 in
theorem fair_large (budget : Int) (A : Option Addr) (n c : Nat) (w : World) (hb : 0 ≤ budget ∧ budget ≤ 10000000) (hn : 1000 < n) :
    Calls Try.prog 26 #[.int .i64 budget, .slice A n c] w fun e w' => e = .returned (.tuple #[.slice none 0 0, .int .i64 4]) ∧ Below w.heap.size w w' := by
  have hd : decide (0 ≤ budget ∧ budget ≤ 10000000) = true := decide_eq_true hb
  have hd2 : decide (1000 < (n : Int)) = true := by simp; omega
  go_enter Try.func26, Try.ntmps26
  go_wp2_with (first | (go_at_call 58; refine (within58 _ _ _ _).mono ?_; rintro e w' ⟨rfl, rfl⟩; rw [hd]))
  go_ret2
  exact ⟨rfl, below_alloc (Below.refl _ _) _⟩

set_option maxHeartbeats 1000000 in
set_option maxRecDepth 100000 in
theorem fair_bad (budget : Int) (A : Option Addr) (n c : Nat) (xs : List Int) (w : World) (hb : 0 ≤ budget ∧ budget ≤ 10000000)
    (hr : ReadsInt w .i64 A n xs) (hn : n ≤ 1000) (hx : ¬ ∀ x ∈ xs, 0 ≤ x ∧ x ≤ 10000000) :
    Calls Try.prog 26 #[.int .i64 budget, .slice A n c] w fun e w' => e = .returned (.tuple #[.slice none 0 0, .int .i64 2]) ∧ Below w.heap.size w w' := by
  obtain ⟨j, hj, hbad, hgood⟩ := nth_bad xs hx
  rw [hr.1] at hj
  clear hx
  have hd : decide (1000 < (n : Int)) = false := by simp; omega
  have hd1 : decide (0 ≤ budget ∧ budget ≤ 10000000) = true := decide_eq_true hb
  have hra : ReadsInt (w.alloc (.cells #[.slice A n c] 22)) .i64 A n xs := hr.below (below_alloc (Below.refl _ _) _)
  have hba : Aside0 (Below w.heap.size w (w.alloc (.cells #[.slice A n c] 22))) := ⟨below_alloc (Below.refl _ _) _⟩
  have HG := Lib.hid hgood
  have HBad := Lib.hid hbad
  clear hgood hbad hr
  go_enter Try.func26, Try.ntmps26
  go_wp2_with (first | (go_at_call 58; refine (within58 _ _ _ _).mono ?_; rintro e w' ⟨rfl, rfl⟩; rw [hd1]))
  go_loop [7, 27] (fun _ i => ∃ k : Nat, k ≤ j ∧ i = .int .i64 k) (fun _ i => n - (intOf i).toNat)
  case atStart => exact ⟨0, Nat.zero_le _, rfl⟩
  case round =>
    obtain ⟨k, hk, rfl⟩ := hrel
    obtain ⟨ad, rfl, hc⟩ := hra.at_ k (by omega) (by omega)
    rw [Int.toNat_natCast] at hc
    by_cases hlt : k < j
    · have hv := HG.out k hlt
      have hd2 : decide (0 ≤ rd xs k ∧ rd xs k ≤ 10000000) = true := decide_eq_true hv
      have hlt2 : k < n := by omega
      go_wp2_with (first | (go_at_call 58; refine (within58 _ _ _ _).mono ?_; rintro e w' ⟨rfl, rfl⟩; rw [hd2]))
      go_round
      case rel => exact ⟨k + 1, by omega, by go_num⟩
      case measure => simp [intOf]; omega
    · obtain rfl : k = j := by omega
      have hd2 : decide (0 ≤ rd xs k ∧ rd xs k ≤ 10000000) = false := decide_eq_false HBad.out
      go_wp2_with (first | (go_at_call 58; refine (within58 _ _ _ _).mono ?_; rintro e w' ⟨rfl, rfl⟩; rw [hd2]))
      go_ret2
      exact ⟨rfl, hba.out⟩
end Go.Proofs.Ytancgipidbojkaa.Fair
