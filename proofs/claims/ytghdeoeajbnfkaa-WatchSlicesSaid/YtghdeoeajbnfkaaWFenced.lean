/- Spare, Fenced. -/
import Derived.Test.YtghdeoeajbnfkaaWMeets
namespace Go.Proofs.Ytghdeoeajbnfkaa.WSl
open Go.RowKit Go.Proofs.YtghdeoeajbnfkaaW.PrintWords Go.Proofs.YtghdeoeajbnfkaaW.PrintLast Go.Proofs.YtghdeoeajbnfkaaW.PrintMore Go.Proofs.Ytghdeoeajbnfkaa.WMem Go.Proofs.Ytghdeoeajbnfkaa.PWatchSlices
set_option linter.unusedSimpArgs false
set_option linter.unusedVariables false

theorem infoInt : (Try.prog.info? 3).map (fun i => (i.zero, i.size, i.bytes)) = some (some (.int .i64 0), 1, 8) := by kernel_rfl

set_option maxRecDepth 100000 in
theorem spare (A : Option Addr) (n c : Nat) (w : World) (hc : c ≤ 1000000) (hn : n ≤ c) :
    Calls Try.prog 14 #[.slice A n c] w fun e w' => e = .returned (.int .i64 ((c : Int) - n)) ∧ w' = w := by
  go_enter Try.func14, Try.ntmps14
  go_wp2
  go_ret
  exact ⟨rfl, rfl⟩

/-- The slices without spare room, up to k. -/
def fen (l : List Sl) : Nat → List Int
  | 0 => []
  | k + 1 => if (l.getD k sl0).c = (l.getD k sl0).n then fen l k ++ [(k : Int)] else fen l k
theorem fen_le (l : List Sl) : ∀ k, (fen l k).length ≤ k
  | 0 => Nat.le_refl _
  | k + 1 => by
    have := fen_le l k
    unfold fen
    split
    · simp; omega
    · omega

/-- While Fenced runs. -/
structure FMid (w wr : World) (v : Value) (out : List Int) : Prop where
  below : Below w.heap.size w wr
  row : Kd.R (Kd.int .i64) 3 wr w.heap.size (fun j => w.heap.size ≤ j) v out

set_option maxHeartbeats 8000000 in
set_option maxRecDepth 100000 in
theorem fenced (A : Option Addr) (g o c : Nat) (l : List Sl) (w : World) (hl : RowAt w A g o l) (hs : ∀ s ∈ l, s.n ≤ s.c ∧ s.c ≤ 1000000) (hn : l.length ≤ 1000000) :
    Calls Try.prog 11 #[.slice A l.length c] w fun e w' => ∃ v out, e = .returned (.tuple #[v, .int .i64 (chk l)]) ∧ FMid w w' v out ∧ (chk l = 0 → out = fen l l.length) := by
  have HC := Aside0.mk (check A g o c l w hl hn)
  have hcc := chk_cases l
  have HL := Aside0.mk hl
  have HS := Aside0.mk hs
  clear hl hs
  generalize chk l = q at *
  generalize hln : l.length = n at *
  have HN := Lib.hid hln
  clear hln
  rcases hcc with rfl | rfl
  · go_enter Try.func11, Try.ntmps11
    go_wp2_with (first | (go_at_call 21; refine HC.out.mono ?_; rintro e w2 ⟨rfl, hw2⟩; replace hw2 := hw2.symm; subst hw2))
    refine bodyPost_ret (results_tmp2 rfl _ _ _) rfl ?_
    exact ⟨_, [], rfl, ⟨Below.refl _ _, Kd.R_nil _ _ _ _ _⟩, (fun h => by cases h)⟩
  · go_enter Try.func11, Try.ntmps11
    go_wp2_with (first | (go_at_call 21; refine HC.out.mono ?_; rintro e w2 ⟨rfl, hw2⟩; replace hw2 := hw2.symm; subst hw2))
    go_loopw [5, 6, 7, 15] (fun v _ _ i wr => ∃ k : Nat, k ≤ n ∧ i = .int .i64 k ∧ Aside0 (FMid w wr v (fen l k))) (fun _ _ _ i _ => n - (intOf i).toNat)
    case atStart => exact ⟨0, Nat.zero_le _, rfl, ⟨Below.refl _ _, Kd.R_nil _ _ _ _ _⟩⟩
    case round =>
      obtain ⟨k, hk, rfl, HD⟩ := hrel
      by_cases hlt : k < n
      · have hA := HL.out.A (by rw [HN.out]; omega)
        subst hA
        have hkl : k < l.length := by rw [HN.out]; exact hlt
        have hrow := HL.out.below HD.out.below
        have c1 := hrow.cell k (l.getD k sl0) (by simp [hkl])
        have hv : (l.getD k sl0).val = .slice (l.getD k sl0).A (l.getD k sl0).n (l.getD k sl0).c := rfl
        rw [hv] at c1
        obtain ⟨hsc, hsm⟩ := HS.out (l.getD k sl0) (by simp [hkl])
        have hstep : fen l (k + 1) = if (l.getD k sl0).c = (l.getD k sl0).n then fen l k ++ [(k : Int)] else fen l k := rfl
        have hlen := fen_le l k
        generalize (l.getD k sl0).A = kA at *
        generalize (l.getD k sl0).c = kc at *
        generalize (l.getD k sl0).n = kn at *
        have HLN := Lib.hid (show (fen l k).length ≤ 1000000 by omega)
        clear hrow hkl hv hlen
        obtain ⟨VA, vc, rfl⟩ := Kd.R_slice HD.out.row
        by_cases he : kc = kn
        · rw [if_pos he] at hstep
          have HST := Lib.hid hstep
          subst he
          clear hstep
          have hz : (((kc : Int) - kc) == 0) = true := by simp
          generalize fen l k = out at *
          go_wp2_with (first | (go_at_call 14; refine (spare kA kc kc _ hsm (Nat.le_refl _)).mono ?_; rintro e w2 ⟨rfl, hw2⟩; replace hw2 := hw2.symm; subst hw2) | ((with_reducible refine gate_builtin (b := .append) (xs := #[.tmp 23, .tmp 25]) rfl ?_); at_builtin; refine Kd.R_append (Kd.int .i64) (w0 := w) w.heap.size rfl (.tmp 23) (.tmp 25) 35 3 (.int .i64 0) 8 rfl Try.underlying35 infoInt rfl (by decide) (by omega) _ out (k : Int) [.int .i64 (k : Int)] (fun j => w.heap.size ≤ j) (fun _ => False) rfl rfl ?aP (fun _ hk => hk.elim) ?aF ?aO ?aB ?aS ?aL ?_; (case aP => exact rfl); (case aF => exact (fun j hj => Nat.le_trans HD.out.below.size hj)); (case aO => exact HD.out.row); (case aB => exact HD.out.below); (case aS => exact HD.out.below.size); (case aL => have := HLN.out; omega); intro v1 w9 ho hb hg hat; have HO1 := Aside0.mk ho; have HB9 := Aside0.mk hb; clear ho hb hg hat))
          go_roundw
          case rel => exact ⟨k + 1, by omega, by go_num, ⟨by rw [HST.out]; exact ⟨HB9.out, HO1.out⟩⟩⟩
          case measure => simp [intOf]; omega
        · rw [if_neg he] at hstep
          have HST := Lib.hid hstep
          clear hstep
          obtain ⟨d, hd⟩ : ∃ d : Int, (kc : Int) - kn = d := ⟨_, rfl⟩
          have hd0 : (d == 0) = false := by simp; omega
          have HDD := Lib.hid hd
          clear hd he
          go_wp2_with (first | (go_at_call 14; refine (spare kA kn kc _ hsm hsc).mono ?_; rintro e w2 ⟨rfl, hw2⟩; replace hw2 := hw2.symm; subst hw2; rw [HDD.out]))
          go_roundw
          case rel => exact ⟨k + 1, by omega, by go_num, ⟨by rw [HST.out]; exact HD.out⟩⟩
          case measure => simp [intOf]; omega
      · have hkn : k = n := by omega
        have HE := Aside0.mk HD.out
        rw [hkn] at HE
        clear hkn
        go_wp2
        refine bodyPost_ret (results_tmp2 rfl _ _ _) rfl ?_
        exact ⟨_, _, rfl, HE.out, fun _ => rfl⟩

end Go.Proofs.Ytghdeoeajbnfkaa.WSl
