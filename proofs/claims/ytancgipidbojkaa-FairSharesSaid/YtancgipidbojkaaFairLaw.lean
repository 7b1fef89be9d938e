/- Fair and FairOf in one form, and the law that they are the same. -/
import Derived.Test.YtancgipidbojkaaFairTwo
namespace Go.Proofs.Ytancgipidbojkaa.Fair
open Go.RowKit Go.Proofs.YtancgipidbojkaaW.PrintWords Go.Proofs.YtancgipidbojkaaW.PrintLast Go.Proofs.YtancgipidbojkaaW.PrintMore

/-- What Fair returns. -/
def FairIs (budget : Int) (xs o : List Int) (e : Int) : Prop :=
  (¬ (0 ≤ budget ∧ budget ≤ 10000000) ∧ o = [] ∧ e = 2) ∨ ((0 ≤ budget ∧ budget ≤ 10000000) ∧ 1000 < xs.length ∧ o = [] ∧ e = 4) ∨
  ((0 ≤ budget ∧ budget ≤ 10000000) ∧ xs.length ≤ 1000 ∧ (¬ ∀ x ∈ xs, 0 ≤ x ∧ x ≤ 10000000) ∧ o = [] ∧ e = 2) ∨
  ((0 ≤ budget ∧ budget ≤ 10000000) ∧ xs.length ≤ 1000 ∧ (∀ x ∈ xs, 0 ≤ x ∧ x ≤ 10000000) ∧ e = 0 ∧
    ∃ level, 0 ≤ level ∧ level ≤ 10000000 ∧ sumAt level xs ≤ budget ∧ (∀ l, level < l → l ≤ 10000000 → budget < sumAt l xs) ∧ o = (gives level (budget - sumAt level xs) xs).1)

theorem fairIs_one {budget : Int} {xs o o' : List Int} {e e' : Int} (h : FairIs budget xs o e) (h' : FairIs budget xs o' e') : o = o' ∧ e = e' := by
  rcases h with ⟨a, rfl, rfl⟩ | ⟨a, b, rfl, rfl⟩ | ⟨a, b, c, rfl, rfl⟩ | ⟨a, b, c, rfl, l, l0, l1, l2, l3, rfl⟩
  · rcases h' with ⟨a', rfl, rfl⟩ | ⟨a', _⟩ | ⟨a', _⟩ | ⟨a', _⟩
    · exact ⟨rfl, rfl⟩
    all_goals exact absurd a' a
  · rcases h' with ⟨a', _⟩ | ⟨a', b', rfl, rfl⟩ | ⟨a', b', _⟩ | ⟨a', b', _⟩
    · exact absurd a a'
    · exact ⟨rfl, rfl⟩
    all_goals omega
  · rcases h' with ⟨a', _⟩ | ⟨a', b', _⟩ | ⟨a', b', c', rfl, rfl⟩ | ⟨a', b', c', _⟩
    · exact absurd a a'
    · omega
    · exact ⟨rfl, rfl⟩
    · exact absurd c' c
  · rcases h' with ⟨a', _⟩ | ⟨a', b', _⟩ | ⟨a', b', c', _⟩ | ⟨a', b', c', rfl, l', l0', l1', l2', l3', rfl⟩
    · exact absurd a a'
    · omega
    · exact absurd c c'
    · have : l = l' := by
        by_cases h1 : l < l'
        · have := l3 l' h1 l1'; omega
        · by_cases h2 : l' < l
          · have := l3' l h2 l1; omega
          · omega
      subst this
      exact ⟨rfl, rfl⟩

theorem fair26 (budget : Int) (A : Option Addr) (n c : Nat) (xs : List Int) (w : World) (hr : ReadsInt w .i64 A n xs) :
    Calls Try.prog 26 #[.int .i64 budget, .slice A n c] w fun e w' => ∃ (o : List Int) (x : Int) (v : Value), e = .returned (.tuple #[v, .int .i64 x]) ∧ FairIs budget xs o x ∧
      Kd.R (Kd.int .i64) 3 w' w.heap.size (fun _ => True) v o ∧ Below w.heap.size w w' := by
  have hl := hr.1
  by_cases hb : 0 ≤ budget ∧ budget ≤ 10000000
  · by_cases hn : 1000 < n
    · exact (fair_large budget A n c w hb hn).mono fun e w' ⟨he, hw⟩ => ⟨[], 4, _, he, .inr (.inl ⟨hb, by omega, rfl, rfl⟩), Kd.R_nil _ _ _ _ _, hw⟩
    · by_cases hx : ∀ x ∈ xs, 0 ≤ x ∧ x ≤ 10000000
      · exact (fair_ok budget A n c xs w hb.1 hb.2 hr (by omega) hx).mono fun e w' ⟨l, v, he, hR, hw, l0, l1, l2, l3⟩ => ⟨_, 0, v, he, .inr (.inr (.inr ⟨hb, by omega, hx, rfl, l, l0, l1, l2, l3, rfl⟩)), hR, hw⟩
      · exact (fair_bad budget A n c xs w hb hr (by omega) hx).mono fun e w' ⟨he, hw⟩ => ⟨[], 2, _, he, .inr (.inr (.inl ⟨hb, by omega, hx, rfl, rfl⟩)), Kd.R_nil _ _ _ _ _, hw⟩
  · exact (fair_range budget A n c w hb).mono fun e w' ⟨he, hw⟩ => ⟨[], 2, _, he, .inl ⟨hb, rfl, rfl⟩, Kd.R_nil _ _ _ _ _, hw⟩

theorem gives_all (level rest : Int) (xs : List Int) (h : ∀ x ∈ xs, x ≤ level) : (gives level rest xs).1 = xs := by
  suffices hh : ∀ (ys : List Int) (acc : List Int × Int), (∀ x ∈ ys, x ≤ level) → (ys.foldl (give level) acc).1 = acc.1 ++ ys by
    have := hh xs ([], rest) h; simpa [gives] using this
  intro ys
  induction ys with
  | nil => intro acc _; simp
  | cons y ys ih =>
    intro acc hy
    have hy1 := hy y (by simp)
    rw [List.foldl_cons, ih _ (fun x hx => hy x (by simp [hx]))]
    unfold give mn
    rw [if_neg (by omega)]
    split
    · have : y = level := by omega
      simp [this]
    · simp

theorem fair31 (budget : Int) (A : Option Addr) (n c : Nat) (xs : List Int) (w : World) (hr : ReadsInt w .i64 A n xs) :
    Calls Try.prog 31 #[.int .i64 budget, .slice A n c] w fun e w' => ∃ (o : List Int) (x : Int) (v : Value), e = .returned (.tuple #[v, .int .i64 x]) ∧ FairIs budget xs o x ∧
      Kd.R (Kd.int .i64) 3 w' w.heap.size (fun _ => True) v o ∧ Below w.heap.size w w' := by
  have hl := hr.1
  by_cases hb : 0 ≤ budget ∧ budget ≤ 10000000
  · by_cases hn : 1000 < n
    · exact (fairof_large budget A n c w hb hn).mono fun e w' ⟨he, hw⟩ => ⟨[], 4, _, he, .inr (.inl ⟨hb, by omega, rfl, rfl⟩), Kd.R_nil _ _ _ _ _, hw⟩
    · by_cases hx : ∀ x ∈ xs, 0 ≤ x ∧ x ≤ 10000000
      · by_cases ht : total xs ≤ budget
        · refine (fairof_all budget A n c xs w hb.1 hb.2 hr (by omega) hx ht).mono fun e w' ⟨v, he, hR, hw⟩ => ⟨xs, 0, v, he, .inr (.inr (.inr ⟨hb, by omega, hx, rfl, 10000000, by omega, by omega, ?_, fun l h1 h2 => by omega, ?_⟩)), hR, hw⟩
          · rw [total_top xs hx]; exact ht
          · exact (gives_all _ _ _ (fun x h => (hx x h).2)).symm
        · refine (fairof_ok budget A n c xs w hb.1 hb.2 hr (by omega) hx (by omega)).mono fun e w' ⟨l, v, he, hR, hw, l0, l1, l2, l3⟩ => ⟨_, 0, v, he, .inr (.inr (.inr ⟨hb, by omega, hx, rfl, l, l0, by omega, l2, fun m h1 h2 => ?_, rfl⟩)), hR, hw⟩
          have := sumAt_mono xs (l + 1) m (by omega)
          omega
      · exact (fairof_bad budget A n c xs w hb hr (by omega) hx).mono fun e w' ⟨he, hw⟩ => ⟨[], 2, _, he, .inr (.inr (.inl ⟨hb, by omega, hx, rfl, rfl⟩)), Kd.R_nil _ _ _ _ _, hw⟩
  · exact (fairof_range budget A n c w hb).mono fun e w' ⟨he, hw⟩ => ⟨[], 2, _, he, .inl ⟨hb, rfl, rfl⟩, Kd.R_nil _ _ _ _ _, hw⟩

theorem fairIs_len {budget : Int} {xs o : List Int} {e : Int} (h : FairIs budget xs o e) : o.length ≤ 1000 := by
  rcases h with ⟨a, rfl, rfl⟩ | ⟨a, b, rfl, rfl⟩ | ⟨a, b, c, rfl, rfl⟩ | ⟨a, b, c, rfl, l, l0, l1, l2, l3, rfl⟩
  · simp
  · simp
  · simp
  · rw [gives_len]; exact b

theorem equal_l (l : List Int) (hl : l.length ≤ 200000) (d : Nat) : ∀ (k : Nat) (i : Int), 0 ≤ i → i ≤ l.length → (l.length : Int) - i = d → d < k →
    PLedgerFair.slices_Equal_int_int.l0 k l l (l.length : Int) i = some true := by
  induction d with
  | zero =>
    intro k i h0 h1 hd hk
    obtain ⟨k, rfl⟩ : ∃ m, k = m + 1 := ⟨k - 1, by omega⟩
    simp only [PLedgerFair.slices_Equal_int_int.l0]
    rw [if_neg (by omega)]
  | succ d ih =>
    intro k i h0 h1 hd hk
    obtain ⟨k, rfl⟩ : ∃ m, k = m + 1 := ⟨k - 1, by omega⟩
    simp only [PLedgerFair.slices_Equal_int_int.l0]
    rw [if_pos (by omega), if_pos h0, if_pos (by omega), if_pos (by omega), if_pos trivial, wrap_ok _ (by omega) (by omega)]
    exact ih k (i + 1) (by omega) (by omega) (by omega) (by omega)

theorem equal17 (A0 A1 : Option Addr) (c0 c1 : Nat) (xs : List Int) (w : World) (hx : xs.length ≤ 200000) (h0 : Kd.C (Kd.int .i64) w A0 xs.length xs) (hc0 : xs.length ≤ c0) (h1 : Kd.C (Kd.int .i64) w A1 xs.length xs) (hc1 : xs.length ≤ c1) :
    Calls Try.prog 17 #[.slice A0 xs.length c0, .slice A1 xs.length c1] w fun e w' => e = .returned (.bool true) ∧ Below w.heap.size w w' := by
  refine (PLedgerFair.slices_Equal_int_int.calls (xs.length + 1) A0 c0 xs A1 c1 xs true w h0 hc0 h1 hc1 ?_).mono fun e w' ⟨he, hd⟩ => ⟨he, hd.below⟩
  unfold PLedgerFair.slices_Equal_int_int.f
  rw [if_pos rfl]
  exact equal_l xs hx xs.length _ 0 (by omega) (by omega) (by omega) (by omega)

def IsRow (k : IntKind) (w : World) (a : Option Addr) (len cap : Nat) (zs : List Int) : Prop :=
  (a = none ∧ len = 0 ∧ cap = 0 ∧ zs = []) ∨
  ∃ x, a = some x ∧ len ≤ cap ∧ cap ≤ maxLen ∧ zs.length = cap ∧ (∀ i, i < zs.length → w.cell? (x.add i) = some (.int k (zs.getD i 0))) ∧ ∀ n ∈ zs, (Lit.int k n).wf = true

set_option maxHeartbeats 1000000 in
set_option maxRecDepth 100000 in
theorem ledgerFair (budget : Int) (a : Option Addr) (len cap : Nat) (zs : List Int) (w : World) (_ : (Lit.int .i64 budget).wf = true) (hrow : IsRow .i64 w a len cap zs) (_ : len * 8 ≤ 140737488351232) :
    Calls Try.prog 7 #[.int .i64 budget, .slice a len cap] w fun e w' => e = .returned (.bool true) ∧ Below w.heap.size w w' := by
  obtain ⟨xs, rfl, hr, _, _, hc⟩ := ReadsInt.ofRowC hrow
  have HR := Aside0.mk hr
  clear hr hrow
  go_enter Try.func7, Try.ntmps7
  go_wp2_with (go_at_call 26; refine (fair26 budget a _ cap xs _ HR.out).mono ?_; rintro e w1 ⟨o, x, v, rfl, hF, hR1, hB1⟩; have HF := Aside0.mk hF; obtain ⟨A1, c1, rfl, hc1, hC1⟩ := Kd.R_reads hR1; have HC1 := Aside0.mk hC1; have HB1 := Aside0.mk hB1; clear hF hR1 hC1 hB1)
  go_wp2_with (go_at_call 31; refine (fair31 budget a _ cap xs _ (HR.out.below HB1.out)).mono ?_; rintro e w2 ⟨o2, x2, v2, rfl, hF2, hR2, hB2⟩; obtain ⟨rfl, rfl⟩ := fairIs_one HF.out hF2; obtain ⟨A2, c2, rfl, hc2, hC2⟩ := Kd.R_reads hR2; have HC2 := Aside0.mk hC2; have HB2 := Aside0.mk hB2; clear hF2 hR2 hC2 hB2)
  go_wp2_with (go_at_call 17; refine (equal17 A1 A2 c1 c2 o _ (Nat.le_trans (fairIs_len HF.out) (by decide)) (Kd.C_below HC1.out HB2.out) hc1 HC2.out hc2).mono ?_; rintro e w3 ⟨rfl, hB3⟩; have HB3 := Aside0.mk hB3; clear hB3)
  go_ret
  exact ⟨rfl, below_then (below_then HB1.out HB1.out.size HB2.out) (Nat.le_trans HB1.out.size HB2.out.size) HB3.out⟩
end Go.Proofs.Ytancgipidbojkaa.Fair
