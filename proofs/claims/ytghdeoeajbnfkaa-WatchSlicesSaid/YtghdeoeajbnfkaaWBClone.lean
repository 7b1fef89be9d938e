/- bytes.Clone; bytes.Equal of equal octets. -/
import Derived.Test.YtghdeoeajbnfkaaWSl
import Derived.Test.YtghdeoeajbnfkaaWPr
namespace Go.Proofs.Ytghdeoeajbnfkaa.WSl
open Go.RowKit Go.Proofs.YtghdeoeajbnfkaaW.PrintWords Go.Proofs.YtghdeoeajbnfkaaW.PrintLast Go.Proofs.YtghdeoeajbnfkaaW.PrintMore Go.Proofs.Ytghdeoeajbnfkaa.WMem Go.Proofs.Ytghdeoeajbnfkaa.PWatchSlices
set_option linter.unusedSimpArgs false
set_option linter.unusedVariables false

set_option maxRecDepth 100000 in
theorem bclone (s : Sl) (w : World) (h : Lies w s) (hnn : s.nul = false) :
    Calls Try.prog 13 #[s.val] w fun e w' => ∃ v, e = .returned v ∧ Kd.R (Kd.int .u8) 5 w' w.heap.size (fun k => w.heap.size ≤ k) v (octsOf w s) ∧ Below w.heap.size w w' := by
  have hr := (Lies_reads h)
  have hle := h.le
  have hsm := h.small
  clear h
  unfold Sl.val
  generalize octsOf w s = xs at hr
  revert hr
  unfold Sl.A
  obtain ⟨b, o, n, c, nul⟩ := s
  dsimp only at hle hsm hnn ⊢
  subst hnn
  intro hr
  simp only [Bool.false_eq_true, if_false] at hr ⊢
  have hnil := fun w => @Lib.run_eql_slice_nil Try.prog w 22 5 (some ⟨b, o, none⟩) n c 0 0 Try.underlying22
  go_enter Try.func13, Try.ntmps13
  go_wp2_with (first | (at_builtin; refine print_append_row (w0 := w) w.heap.size rfl (.tmp 5) (.tmp 6) 22 5 .u8 1 rfl Try.underlying22 infoU8 (by decide) _ [] xs (some ⟨b, o, none⟩) n c rfl rfl (own_lit w w.heap.size 5 .u8 [] (Nat.le_refl _) (by simp)) (hr.below (below_alloc (Below.refl _ _) _)) (below_alloc (Below.refl _ _) _) (by simp) (by simp; omega) ?_; intro v1 w1 ho hb hg hat; have HO := Aside0.mk ho; have HB := Aside0.mk hb; clear ho hb hg hat))
  go_ret
  exact ⟨_, rfl, Kd.R_mono (Kd.R_bound (Kd.R_of_own HO.out (fun _ _ => trivial))) (fun k hk => hk.2.1), HB.out⟩

theorem wrap_small (i : Int) (h0 : 0 ≤ i) (h1 : i ≤ 1000001) : wrap64 i = i := by
  unfold wrap64
  omega

theorem span_true (l : List (S54)) (hl : l.length ≤ 1000000) : ∀ (k : Nat) (i : Nat), l.length - i < k → watch_Span.l0 k l l l.length i = some true
  | 0, i, h => by omega
  | k + 1, i, h => by
    unfold watch_Span.l0
    by_cases hi : i < l.length
    · rw [if_pos (by omega), if_pos (by omega), if_pos (by omega), if_pos (by omega), if_neg (by simp), wrap_small _ (by omega) (by omega)]
      exact span_true l hl k (i + 1) (by omega)
    · rw [if_neg (by omega)]
theorem pair_true (l : List (S57)) (hl : l.length ≤ 1000000) : ∀ (k : Nat) (i : Nat), l.length - i < k → watch_Pair.l0 k l l l.length i = some true
  | 0, i, h => by omega
  | k + 1, i, h => by
    unfold watch_Pair.l0
    by_cases hi : i < l.length
    · rw [if_pos (by omega), if_pos (by omega), if_pos (by omega), if_pos (by omega), if_neg (by simp), wrap_small _ (by omega) (by omega)]
      exact pair_true l hl k (i + 1) (by omega)
    · rw [if_neg (by omega)]
theorem ints_true (l : List Int) (hl : l.length ≤ 1000000) : ∀ (k : Nat) (i : Nat), l.length - i < k → slices_Equal_int_int.l0 k l l l.length i = some true
  | 0, i, h => by omega
  | k + 1, i, h => by
    unfold slices_Equal_int_int.l0
    by_cases hi : i < l.length
    · rw [if_pos (by omega), if_pos (by omega), if_pos (by omega), if_pos (by omega), if_pos rfl, wrap_small _ (by omega) (by omega)]
      exact ints_true l hl k (i + 1) (by omega)
    · rw [if_neg (by omega)]

theorem spansEq {A0 A1 : Option Addr} {n0 n1 c0 c1 : Nat} {l : List (S54)} {w : World} (h0 : k54.C w A0 n0 l) (h1 : k54.C w A1 n1 l) (e0 : n0 = l.length) (e1 : n1 = l.length) (hc0 : n0 ≤ c0) (hc1 : n1 ≤ c1) (hl : l.length ≤ 1000000) :
    Calls Try.prog 16 #[.slice A0 n0 c0, .slice A1 n1 c1] w fun e w' => e = .returned (.bool true) ∧ Drawn0 w w' := by
  subst e0 e1
  exact watch_Span.calls (l.length + 1) A0 c0 l A1 c1 l true w h0 hc0 h1 hc1 (by unfold watch_Span.f; rw [if_pos rfl]; exact span_true l hl _ 0 (by omega))
theorem pairsEq {A0 A1 : Option Addr} {n0 n1 c0 c1 : Nat} {l : List (S57)} {w : World} (h0 : k57.C w A0 n0 l) (h1 : k57.C w A1 n1 l) (e0 : n0 = l.length) (e1 : n1 = l.length) (hc0 : n0 ≤ c0) (hc1 : n1 ≤ c1) (hl : l.length ≤ 1000000) :
    Calls Try.prog 19 #[.slice A0 n0 c0, .slice A1 n1 c1] w fun e w' => e = .returned (.bool true) ∧ Drawn0 w w' := by
  subst e0 e1
  exact watch_Pair.calls (l.length + 1) A0 c0 l A1 c1 l true w h0 hc0 h1 hc1 (by unfold watch_Pair.f; rw [if_pos rfl]; exact pair_true l hl _ 0 (by omega))
theorem intsEq {A0 A1 : Option Addr} {n0 n1 c0 c1 : Nat} {l : List Int} {w : World} (h0 : ReadsInt w .i64 A0 n0 l) (h1 : ReadsInt w .i64 A1 n1 l) (e0 : n0 = l.length) (e1 : n1 = l.length) (hc0 : n0 ≤ c0) (hc1 : n1 ≤ c1) (hl : l.length ≤ 1000000) :
    Calls Try.prog 20 #[.slice A0 n0 c0, .slice A1 n1 c1] w fun e w' => e = .returned (.bool true) ∧ Drawn0 w w' := by
  subst e0 e1
  exact slices_Equal_int_int.calls (l.length + 1) A0 c0 l A1 c1 l true w (Kd.C_of_reads (d := 0) h0) hc0 (Kd.C_of_reads (d := 0) h1) hc1 (by unfold slices_Equal_int_int.f; rw [if_pos rfl]; exact ints_true l hl _ 0 (by omega))
theorem bytesEq {A0 A1 : Option Addr} {n0 n1 c0 c1 : Nat} {l : List Int} {w : World} (h0 : ReadsInt w .u8 A0 n0 l) (h1 : ReadsInt w .u8 A1 n1 l) (e0 : n0 = l.length) (e1 : n1 = l.length) (hc0 : n0 ≤ c0) (hc1 : n1 ≤ c1) :
    Calls Try.prog 18 #[.slice A0 n0 c0, .slice A1 n1 c1] w fun e w' => e = .returned (.bool true) ∧ Drawn0 w w' := by
  subst e0 e1
  exact bytes_Equal.calls A0 c0 l A1 c1 l true w (Kd.C_of_reads (d := 0) h0) hc0 (Kd.C_of_reads (d := 0) h1) hc1 (by unfold bytes_Equal.f; simp)

end Go.Proofs.Ytghdeoeajbnfkaa.WSl
