/- What Fair gives: the plain law, and the walk of the statement FairShares. -/
import Derived.Test.YtancgipidbojkaaFairLaw
import Derived.Deep.QuietTactic
import Derived.BigQuiet
import Derived.IntWalk
namespace Go.Proofs.Ytancgipidbojkaa.Fair
open Go.RowKit Go.Proofs.YtancgipidbojkaaW.PrintWords Go.Proofs.YtancgipidbojkaaW.PrintLast Go.Proofs.YtancgipidbojkaaW.PrintMore
attribute [local go_sem] max2_int min2_int max_two min_two

/-- The greatest of all, at least 0. -/
def most : List Int → Int
  | [] => 0
  | x :: xs => mx (most xs) x
def mostTo (xs : List Int) : Int := xs.foldl mx 0
theorem mostTo_snoc (xs : List Int) (x : Int) : mostTo (xs ++ [x]) = mx (mostTo xs) x := by simp [mostTo]
theorem mostTo_le (xs : List Int) (b : Int) (h0 : 0 ≤ b) (h : ∀ x ∈ xs, x ≤ b) : 0 ≤ mostTo xs ∧ mostTo xs ≤ b := by
  suffices hh : ∀ (ys : List Int) (a : Int), 0 ≤ a → a ≤ b → (∀ x ∈ ys, x ≤ b) → 0 ≤ ys.foldl mx a ∧ ys.foldl mx a ≤ b from hh xs 0 (Int.le_refl _) h0 h
  intro ys
  induction ys with
  | nil => intro a ha hab _; exact ⟨ha, hab⟩
  | cons y ys ih =>
    intro a ha hab hy
    have := hy y (by simp)
    refine ih _ ?_ ?_ (fun x hx => hy x (by simp [hx]))
    · unfold mx; split <;> omega
    · unfold mx; split <;> omega

theorem give_get (level rest : Int) (xs : List Int) (h0 : 0 ≤ level) (hx : ∀ x ∈ xs, 0 ≤ x) : ∀ i, i < xs.length →
    (0 ≤ rd (gives level rest xs).1 i ∧ rd (gives level rest xs).1 i ≤ rd xs i ∧ rd (gives level rest xs).1 i ≤ level + 1 ∧ (rd (gives level rest xs).1 i < rd xs i → level ≤ rd (gives level rest xs).1 i)) := by
  suffices hh : ∀ (ys : List Int) (acc : List Int × Int), (∀ x ∈ ys, 0 ≤ x) → ∀ i, i < ys.length →
      (0 ≤ (ys.foldl (give level) acc).1.getD (acc.1.length + i) 0 ∧ (ys.foldl (give level) acc).1.getD (acc.1.length + i) 0 ≤ ys.getD i 0 ∧ (ys.foldl (give level) acc).1.getD (acc.1.length + i) 0 ≤ level + 1 ∧
        ((ys.foldl (give level) acc).1.getD (acc.1.length + i) 0 < ys.getD i 0 → level ≤ (ys.foldl (give level) acc).1.getD (acc.1.length + i) 0)) ∧
      (∀ j, j < acc.1.length → (ys.foldl (give level) acc).1.getD j 0 = acc.1.getD j 0) by
    intro i hi
    have := (hh xs ([], rest) hx i hi).1
    simpa [rd, gives] using this
  have hkeep : ∀ (ys : List Int) (acc : List Int × Int) (j : Nat), j < acc.1.length → (ys.foldl (give level) acc).1.getD j 0 = acc.1.getD j 0 := by
    intro ys
    induction ys with
    | nil => intro acc j _; rfl
    | cons y ys ih =>
      intro acc j hj
      rw [List.foldl_cons]
      have : acc.1.length < (give level acc y).1.length := by unfold give; split <;> simp
      rw [ih _ j (by omega)]
      unfold give
      split <;> simp [List.getElem?_append_left hj]
  intro ys
  induction ys with
  | nil => intro acc _ i hi; simp at hi
  | cons y ys ih =>
    intro acc hy i hi
    refine ⟨?_, fun j hj => hkeep _ _ j hj⟩
    rw [List.foldl_cons]
    have hl : (give level acc y).1.length = acc.1.length + 1 := by unfold give; split <;> simp
    have hy0 := hy y (by simp)
    cases i with
    | zero =>
      rw [hkeep ys (give level acc y) (acc.1.length + 0) (by omega)]
      unfold give mn
      simp only [Nat.add_zero, List.getD_cons_zero]
      split
      · simp
        split <;> omega
      · simp
        split <;> omega
    | succ i =>
      have := (ih (give level acc y) (fun x hx => hy x (by simp [hx])) i (by simpa using hi)).1
      rw [hl] at this
      rw [show acc.1.length + (i + 1) = acc.1.length + 1 + i by omega]
      simpa using this

theorem total_append (xs ys : List Int) : total (xs ++ ys) = total xs + total ys := by
  induction xs with
  | nil => simp [total]
  | cons x xs ih => simp [total, ih]; omega

theorem gives_sum (level rest : Int) (h0 : 0 ≤ rest) (xs : List Int) :
    total (gives level rest xs).1 = sumAt level xs + (rest - (gives level rest xs).2) ∧ (gives level rest xs).2 = mx 0 (rest - (sumAt (level + 1) xs - sumAt level xs)) := by
  suffices hh : ∀ (ys : List Int) (acc : List Int × Int), 0 ≤ acc.2 → total (ys.foldl (give level) acc).1 = total acc.1 + sumAt level ys + (acc.2 - (ys.foldl (give level) acc).2) ∧
      (ys.foldl (give level) acc).2 = mx 0 (acc.2 - (sumAt (level + 1) ys - sumAt level ys)) by
    have := hh xs ([], rest) h0
    simpa [gives, total] using this
  intro ys
  induction ys with
  | nil => intro acc h; simp [sumAt]; unfold mx; split <;> omega
  | cons y ys ih =>
    intro acc h
    rw [List.foldl_cons]
    have h2 : 0 ≤ (give level acc y).2 := by unfold give; split <;> simp <;> omega
    obtain ⟨i1, i2⟩ := ih _ h2
    have hmono := sumAt_mono ys level (level + 1) (by omega)
    have ht : total (give level acc y).1 + (give level acc y).2 = total acc.1 + acc.2 + mn y level := by
      unfold give; split
      · simp [total_append, total]; omega
      · simp [total_append, total]; omega
    have h3 : (give level acc y).2 = if level < y ∧ 0 < acc.2 then acc.2 - 1 else acc.2 := by unfold give; split <;> rfl
    refine ⟨by rw [i1]; simp only [sumAt]; omega, ?_⟩
    rw [i2, h3]
    simp only [sumAt, mx, mn]
    split <;> split <;> split <;> split <;> split <;> omega

/-- What the statement asks of what Fair gives. -/
theorem shares {budget : Int} {xs o : List Int} {e : Int} (h : FairIs budget xs o e) :
    (e ≠ 0 ∧ o = []) ∨ (e = 0 ∧ o.length = xs.length ∧ xs.length ≤ 1000 ∧ 0 ≤ budget ∧ budget ≤ 10000000 ∧ (∀ x ∈ xs, 0 ≤ x ∧ x ≤ 10000000) ∧
      ∃ level, 0 ≤ level ∧ level ≤ 10000000 ∧ (∀ i, i < xs.length → (0 ≤ rd o i ∧ rd o i ≤ rd xs i ∧ rd o i ≤ level + 1 ∧ (rd o i < rd xs i → level ≤ rd o i))) ∧ total o = mn (total xs) budget) := by
  rcases h with ⟨a, rfl, rfl⟩ | ⟨a, b, rfl, rfl⟩ | ⟨a, b, c, rfl, rfl⟩ | ⟨a, b, c, rfl, l, l0, l1, l2, l3, rfl⟩
  · exact .inl ⟨by omega, rfl⟩
  · exact .inl ⟨by omega, rfl⟩
  · exact .inl ⟨by omega, rfl⟩
  · refine .inr ⟨rfl, gives_len _ _ _, b, a.1, a.2, c, l, l0, l1, give_get l _ xs l0 (fun x hx => (c x hx).1), ?_⟩
    have hs := gives_sum l (budget - sumAt l xs) (by omega) xs
    have htop := total_top xs c
    by_cases hl : l = 10000000
    · subst hl
      rw [gives_all _ _ _ (fun x hx => (c x hx).2)]
      unfold mn; split <;> omega
    · have h1 := l3 (l + 1) (by omega) (by omega)
      have h2 := sumAt_mono xs (l + 1) 10000000 (by omega)
      have h3 := hs.2
      unfold mx at h3
      unfold mn
      split <;> split at h3 <;> omega

set_option maxRecDepth 100000 in
theorem newBook57_no (w : World) : Calls Try.prog 57 #[.int .i64 (-1)] w fun e w' => e = .returned (.tuple #[.pointer none, .int .i64 2]) ∧ w = w' := by
  go_enter Try.func57, Try.ntmps57
  go_wp2_with (go_at_call 58; refine (within58 _ _ _ _).mono ?_; rintro e w' ⟨rfl, rfl⟩)
  go_ret2
  exact ⟨rfl, rfl⟩

set_option maxRecDepth 100000 in
theorem awake25 (w : World) : Calls Try.prog 25 #[] w fun e w' => e = .returned (.bool true) ∧ w = w' := by
  go_enter Try.func25, Try.ntmps25
  go_wp2_with (go_at_call 57; refine (newBook57_no _).mono ?_; rintro e w' ⟨rfl, rfl⟩)
  go_ret
  exact ⟨rfl, rfl⟩

set_option maxHeartbeats 2000000 in
set_option maxRecDepth 100000 in
theorem fairShares (budget : Int) (a : Option Addr) (len cap : Nat) (zs : List Int) (w : World) (_ : (Lit.int .i64 budget).wf = true) (hrow : IsRow .i64 w a len cap zs) (_ : len * 8 ≤ 140737488351232) :
    Calls Try.prog 5 #[.int .i64 budget, .slice a len cap] w fun e w' => e = .returned (.bool true) ∧ Below w.heap.size w w' := by
  obtain ⟨xs, rfl, hr, _, _, hc⟩ := ReadsInt.ofRowC hrow
  have HR := Aside0.mk hr
  have hnl := hr.2.1
  clear hr hrow
  go_enter Try.func5, Try.ntmps5
  go_wp2_with (first | (go_at_call 25; refine (awake25 _).mono ?_; rintro e w1 ⟨rfl, rfl⟩) | fail)
  refine (fair26 budget a _ cap xs _ HR.out).mono ?_
  rintro e w1 ⟨o, x, v, rfl, hF, hR1, hB1⟩
  obtain ⟨A1, c1, rfl, hc1, hC1⟩ := Kd.R_reads hR1
  have HC1 : Aside0 (ReadsInt w1 .i64 A1 o.length o) := ⟨Kd.reads_of_C (d := (0 : Int)) hC1⟩
  have HB1 := Aside0.mk hB1
  clear hR1 hC1
  rcases shares hF with ⟨hx0, rfl⟩ | ⟨rfl, hol, hxl, hb0, hb1, hxs, l, hl0, hl1, hg, hsum⟩
  · have hxb : (x != 0) = true := by simp [hx0]
    go_wp2
    go_ret
    exact ⟨rfl, hB1⟩
  · have hne : ((o.length : Int) != (xs.length : Int)) = false := by simp [hol]
    have HX := Lib.hid hxs
    have HG := Lib.hid hg
    have HS := Lib.hid hsum
    have HO := Lib.hid hol
    have hlo : o.length ≤ 1000 := by omega
    clear hxs hg hsum hol hF
    go_wp2
    have hrx := HR.out.below HB1.out
    go_loopw [7, 8, 9, 10, 11, 34] (fun s t m _ _ i wr => ∃ k nq : Nat, k ≤ o.length ∧ wr = w1.drewN nq ∧ i = .int .i64 k ∧ s = .int .i64 (total (o.take k)) ∧ t = .int .i64 (total (xs.take k)) ∧ m = .int .i64 (mostTo (o.take k))) (fun _ _ _ _ _ i _ => o.length - (intOf i).toNat)
    case atStart => exact ⟨0, 0, Nat.zero_le _, rfl, rfl, rfl, rfl, rfl⟩
    case round =>
      obtain ⟨k, nq, hk, rfl, rfl, rfl, rfl, rfl⟩ := hrel
      by_cases hlt : k < o.length
      · have hkx : k < xs.length := by rw [← HO.out]; exact hlt
        obtain ⟨ad1, rfl, hc1'⟩ := HC1.out.at_ k (by omega) (by omega)
        obtain ⟨ad, rfl, hc'⟩ := hrx.at_ k (by omega) (by omega)
        rw [Int.toNat_natCast] at hc1' hc'
        obtain ⟨g1, g2, g3, g4⟩ := HG.out k hkx
        have g5 := HX.out (rd xs k) (by rw [rd, Int.toNat_natCast, List.getD_eq_getElem?_getD, List.getElem?_eq_getElem hkx]; exact List.getElem_mem _)
        have hlo2 : (o.take k).length ≤ k := List.length_take_le _ _
        have hlx2 : (xs.take k).length ≤ k := List.length_take_le _ _
        have t1 := total_range (o.take k) (fun x hx => by
          obtain ⟨j, hj, rfl⟩ := List.mem_iff_getElem.1 (List.mem_of_mem_take hx)
          have hjx : j < xs.length := by rw [← HO.out]; exact hj
          have h1 := HG.out j hjx
          have h2 := HX.out (rd xs j) (by rw [rd, Int.toNat_natCast, List.getD_eq_getElem?_getD, List.getElem?_eq_getElem hjx]; exact List.getElem_mem _)
          have h3 : rd o j = o[j] := by rw [rd, Int.toNat_natCast, List.getD_eq_getElem?_getD, List.getElem?_eq_getElem hj]; rfl
          omega)
        have t2 := total_range (xs.take k) (fun x hx => HX.out x (List.mem_of_mem_take hx))
        have n1 : total (o.take (k + 1)) = total (o.take k) + rd o k := by rw [take_next o k hlt, total_snoc]
        have n2 : total (xs.take (k + 1)) = total (xs.take k) + rd xs k := by rw [take_next xs k hkx, total_snoc]
        have n3 : mostTo (o.take (k + 1)) = mx (mostTo (o.take k)) (rd o k) := by rw [take_next o k hlt, mostTo_snoc]
        have N1 := Lib.hid n1
        have N2 := Lib.hid n2
        have N3 := Lib.hid n3
        clear n1 n2 n3
        have s1 : IntKind.i64.wrap (total (o.take k) + rd o k) = total (o.take k) + rd o k := IntWalk.i64_in _ (by omega)
        have s2 : IntKind.i64.wrap (total (xs.take k) + rd xs k) = total (xs.take k) + rd xs k := IntWalk.i64_in _ (by omega)
        have hlt' : (k : Int) < (o.length : Int) := by omega
        have hkx' : (k : Int) < (xs.length : Int) := by omega
        have hk0 : (0 : Int) ≤ (k : Int) := by omega
        go_wp2
        go_quiet ((fail))
        go_wp2
        go_roundw
        case rel => exact ⟨k + 1, _, by omega, rfl, by go_num, by rw [N1.out], by rw [N2.out], by rw [N3.out]; unfold mx; rfl⟩
        case measure => simp [intOf]; omega
      · have hk2 : o.length ≤ k := by omega
        have e1 : o.take k = o := List.take_of_length_le hk2
        have e2 : xs.take k = xs := List.take_of_length_le (by rw [← HO.out]; exact hk2)
        rw [e1, e2]
        clear e1 e2
        have hm := mostTo_le o (l + 1) (by omega) (fun x hx => by
          obtain ⟨j, hj, rfl⟩ := List.mem_iff_getElem.1 hx
          have h1 := HG.out j (by rw [← HO.out]; exact hj)
          have h3 : rd o j = o[j] := by rw [rd, Int.toNat_natCast, List.getD_eq_getElem?_getD, List.getElem?_eq_getElem hj]; rfl
          omega)
        go_wp2
        go_loop [12, 13, 64] (fun _ _ i => ∃ j : Nat, j ≤ o.length ∧ i = .int .i64 j) (fun _ _ i => o.length - (intOf i).toNat)
        case atStart => exact ⟨0, Nat.zero_le _, rfl⟩
        case round =>
          obtain ⟨j, hj, rfl⟩ := hrel
          by_cases hlj : j < o.length
          · have hjx : j < xs.length := by rw [← HO.out]; exact hlj
            obtain ⟨ad1, rfl, hc1'⟩ := HC1.out.at_ j (by omega) (by omega)
            obtain ⟨ad, rfl, hc'⟩ := hrx.at_ j (by omega) (by omega)
            rw [Int.toNat_natCast] at hc1' hc'
            obtain ⟨g1, g2, g3, g4⟩ := HG.out j hjx
            have g5 := HX.out (rd xs j) (by rw [rd, Int.toNat_natCast, List.getD_eq_getElem?_getD, List.getElem?_eq_getElem hjx]; exact List.getElem_mem _)
            have hlt' : (j : Int) < (o.length : Int) := by omega
            have hkx' : (j : Int) < (xs.length : Int) := by omega
            have hj0 : (0 : Int) ≤ (j : Int) := by omega
            by_cases hw : rd o j < rd xs j
            · have hge := g4 hw
              have hno : decide (rd o j < mostTo o - 1) = false := decide_eq_false (by omega)
              go_wp2
              go_round
              case rel => exact ⟨j + 1, by omega, by go_num⟩
              case measure => simp [intOf]; omega
            · have hwb : decide (rd o j < rd xs j) = false := decide_eq_false hw
              clear g4
              go_wp2
              go_round
              case rel => exact ⟨j + 1, by omega, by go_num⟩
              case measure => simp [intOf]; omega
          · have hj2 : o.length ≤ j := by omega
            by_cases hbt : budget < total xs
            · have ht : total o = budget := by rw [HS.out]; unfold mn; rw [if_pos hbt]
              have hb : (total o == budget) = true := by simp [ht]
              clear ht
              go_wp2
              go_ret
              exact ⟨rfl, pw_below_drewN HB1.out _⟩
            · have ht : total o = total xs := by rw [HS.out]; unfold mn; rw [if_neg hbt]
              have hb : (total o == total xs) = true := by simp [ht]
              clear ht
              go_wp2
              go_ret
              exact ⟨rfl, pw_below_drewN HB1.out _⟩
end Go.Proofs.Ytancgipidbojkaa.Fair
