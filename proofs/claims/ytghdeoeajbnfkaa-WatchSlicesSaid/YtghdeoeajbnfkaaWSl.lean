/- Slices of octets: clone, index, the limits; where the first octet of one appears in another. -/
import Derived.Test.YtghdeoeajbnfkaaWMem
import Derived.Test.YtghdeoeajbnfkaaPWatchSlicesx0
import Derived.Test.YtghdeoeajbnfkaaWKept
import Derived.Test.YtghdeoeajbnfkaaWMore
import Derived.ArgAppend
import Derived.Lib.SliceRun
import Derived.Lib.Hide
namespace Go.Proofs.Ytghdeoeajbnfkaa.WSl
open Go.RowKit Go.Proofs.YtghdeoeajbnfkaaW.PrintWords Go.Proofs.YtghdeoeajbnfkaaW.PrintLast Go.Proofs.YtghdeoeajbnfkaaW.PrintMore Go.Proofs.Ytghdeoeajbnfkaa.WMem
set_option linter.unusedSimpArgs false
set_option linter.unusedVariables false

theorem infoU8 : (Try.prog.info? 5).map (fun i => (i.zero, i.size, i.bytes)) = some (some (.int .u8 0), 1, 1) := by kernel_rfl
theorem add_at (g o j : Nat) : (⟨g, o, none⟩ : Addr).add j = ⟨g, o + j, none⟩ := by
  cases j <;> simp [Addr.add]

/-- What a slice reads. -/
theorem Lies_reads {w : World} {s : Sl} (h : Lies w s) : ReadsInt w .u8 s.A s.n (octsOf w s) := by
  refine ⟨octsOf_length w s, by have := h.small; omega, fun h0 => ⟨⟨s.b, s.o, none⟩, ?_, fun j hj => ?_⟩⟩
  · unfold Sl.A
    split
    · next hq => have := (h.nil hq).1; omega
    · rfl
  · rw [add_at]
    exact h.oct j hj

set_option maxRecDepth 100000 in
theorem clone (s : Sl) (w : World) (h : Lies w s) :
    Calls Try.prog 32 #[s.val] w fun e w' => ∃ v, e = .returned v ∧ Kd.R (Kd.int .u8) 5 w' w.heap.size (fun k => w.heap.size ≤ k) v (octsOf w s) ∧ Below w.heap.size w w' := by
  have hr := (Lies_reads h)
  have hle := h.le
  have hsm := h.small
  have hni := h.nil
  clear h
  unfold Sl.val
  generalize octsOf w s = xs at hr
  revert hr hni
  unfold Sl.A
  obtain ⟨b, o, n, c, nul⟩ := s
  dsimp only at hle hsm ⊢
  cases nul with
  | true =>
    intro hni hr
    obtain ⟨rfl, rfl⟩ := hni rfl
    have hxs : xs = [] := List.length_eq_zero_iff.1 hr.1
    subst hxs
    clear hr hni
    simp only [if_true]
    have hnil := fun w => @Lib.run_eql_slice_nil Try.prog w 22 5 none 0 0 0 0 Try.underlying22
    go_enter Try.func32, Try.ntmps32
    go_wp2
    go_ret
    exact ⟨_, rfl, Kd.R_nil _ _ _ _ _, Below.refl _ _⟩
  | false =>
    intro _ hr
    simp only [Bool.false_eq_true, if_false] at hr ⊢
    have hnil := fun w => @Lib.run_eql_slice_nil Try.prog w 22 5 (some ⟨b, o, none⟩) n c 0 0 Try.underlying22
    go_enter Try.func32, Try.ntmps32
    go_wp2_with (first | (at_builtin; refine print_append_row (w0 := w) w.heap.size rfl (.tmp 5) (.tmp 6) 22 5 .u8 1 rfl Try.underlying22 infoU8 (by decide) _ [] xs (some ⟨b, o, none⟩) n c rfl rfl (own_lit w w.heap.size 5 .u8 [] (Nat.le_refl _) (by simp)) (hr.below (below_alloc (Below.refl _ _) _)) (below_alloc (Below.refl _ _) _) (by simp) (by simp; omega) ?_; intro v1 w1 ho hb hg hat; have HO := Aside0.mk ho; have HB := Aside0.mk hb; clear ho hb hg hat))
    go_ret
    exact ⟨_, rfl, Kd.R_mono (Kd.R_bound (Kd.R_of_own HO.out (fun _ _ => trivial))) (fun k hk => hk.2.1), HB.out⟩

/-- Where an octet lies first. -/
def idx (xs : List Int) (x : Int) : Nat → Nat → Int
  | 0, _ => -1
  | n + 1, k => if x = xs.getD k 0 then (k : Int) else idx xs x n (k + 1)

set_option maxRecDepth 100000 in
theorem index (s : Sl) (x : Int) (w : World) (h : Lies w s) :
    Calls Try.prog 33 #[s.val, .int .u8 x] w fun e w' => e = .returned (.int .i64 (idx (octsOf w s) x s.n 0)) ∧ w' = w := by
  have hsm := h.small
  have hr := Aside0.mk (Lies_reads h)
  have HC := Aside0.mk h.oct
  have HA : ∀ j, j < s.n → s.A = some ⟨s.b, s.o, none⟩ := fun j hj => by
    unfold Sl.A
    split
    · next hq => have := (h.nil hq).1; omega
    · rfl
  have HQ := Aside0.mk HA
  clear h HA
  obtain ⟨b, o, n, c, nul⟩ := s
  dsimp only at hsm HC HQ ⊢
  generalize hxs : octsOf w ⟨b, o, n, c, nul⟩ = xs at HC
  generalize hA : Sl.A ⟨b, o, n, c, nul⟩ = A at HQ
  have HV := Aside0.mk (show Sl.val ⟨b, o, n, c, nul⟩ = .slice A n c by unfold Sl.val; rw [hA])
  rw [HV.out]
  clear hr hxs hA
  go_enter Try.func33, Try.ntmps33
  go_wp2
  go_loop [5, 8] (fun _ i => ∃ k : Nat, k ≤ n ∧ i = .int .i64 k ∧ Aside0 (idx xs x n 0 = idx xs x (n - k) k)) (fun _ i => n - (intOf i).toNat)
  case atStart => exact ⟨0, Nat.zero_le _, rfl, ⟨rfl⟩⟩
  case round =>
    obtain ⟨k, hk, rfl, HI⟩ := hrel
    by_cases hlt : k < n
    · have hA := HQ.out k hlt
      have hcell := HC.out k hlt
      have hstep : idx xs x (n - k) k = if x = xs.getD k 0 then (k : Int) else idx xs x (n - (k + 1)) (k + 1) := by
        rw [show n - k = (n - (k + 1)) + 1 by omega]; rfl
      generalize xs.getD k 0 = y at hcell hstep
      have HS := Lib.hid hstep
      clear hstep
      subst hA
      by_cases he : x = y
      · have hb : (x == y) = true := by simp [he]
        have HE := Lib.hid (show idx xs x n 0 = (k : Int) by rw [HI.out, HS.out, if_pos he])
        clear he
        go_wp2
        go_ret
        exact ⟨by rw [HE.out]; rfl, rfl⟩
      · have hb : (x == y) = false := by simp [he]
        have HE := Lib.hid (show idx xs x n 0 = idx xs x (n - (k + 1)) (k + 1) by rw [HI.out, HS.out, if_neg he])
        clear he
        go_wp2
        go_round
        case rel => exact ⟨k + 1, by omega, by go_num, ⟨HE.out⟩⟩
        case measure => simp [intOf]; omega
    · have hn : k = n := by omega
      have HE := Lib.hid (show idx xs x n 0 = -1 by rw [HI.out, hn, Nat.sub_self]; rfl)
      clear hn
      go_wp2
      go_ret
      exact ⟨by rw [HE.out]; rfl, rfl⟩

end Go.Proofs.Ytghdeoeajbnfkaa.WSl
