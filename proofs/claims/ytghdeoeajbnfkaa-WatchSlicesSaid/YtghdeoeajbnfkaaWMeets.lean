/- Meets. -/
import Derived.Test.YtghdeoeajbnfkaaWDiff
namespace Go.Proofs.Ytghdeoeajbnfkaa.WSl
open Go.RowKit Go.Proofs.YtghdeoeajbnfkaaW.PrintWords Go.Proofs.YtghdeoeajbnfkaaW.PrintLast Go.Proofs.YtghdeoeajbnfkaaW.PrintMore Go.Proofs.Ytghdeoeajbnfkaa.WMem Go.Proofs.Ytghdeoeajbnfkaa.PWatchSlices
set_option linter.unusedSimpArgs false
set_option linter.unusedVariables false

abbrev Pr := S57
abbrev kPr := k57
theorem infoPr : (Try.prog.info? 57).map (fun i => (i.zero, i.size, i.bytes)) = some (some (.agg #[(.int .i64 0), (.int .i64 0)]), 2, 16) := by kernel_rfl

def sl0 : Sl := ⟨0, 0, 0, 0, true⟩
/-- Whether slices i and k share an octet. -/
def mee (l : List Sl) (i k : Nat) : Bool := decide (0 < (ovr (l.getD i sl0) (l.getD k sl0)).2.2)
/-- The pairs with slice i, among the q slices behind it. -/
def mrow (l : List Sl) (i : Nat) (out : List Pr) : Nat → List Pr
  | 0 => out
  | q + 1 => if mee l i (i + 1 + q) then mrow l i out q ++ [⟨i, ((i + 1 + q : Nat) : Int)⟩] else mrow l i out q
/-- The pairs with the slices up to k. -/
def mall (l : List Sl) : Nat → List Pr
  | 0 => []
  | k + 1 => mrow l k (mall l k) (l.length - (k + 1))

theorem mrow_le (l : List Sl) (i : Nat) (out : List Pr) : ∀ q, (mrow l i out q).length ≤ out.length + q
  | 0 => Nat.le_refl _
  | q + 1 => by
    have := mrow_le l i out q
    unfold mrow
    split
    · simp; omega
    · omega
theorem mall_le (l : List Sl) : ∀ k, (mall l k).length ≤ k * l.length
  | 0 => by simp [mall]
  | k + 1 => by
    have h1 := mall_le l k
    have h2 := mrow_le l k (mall l k) (l.length - (k + 1))
    unfold mall
    rw [Nat.succ_mul]
    omega

/-- While Meets runs. -/
structure MMid (w wr : World) (v : Value) (out : List Pr) : Prop where
  below : Below w.heap.size w wr
  row : Kd.R kPr 57 wr w.heap.size (fun j => w.heap.size ≤ j) v out

theorem MMid.after {w wr w2 : World} {v : Value} {out : List Pr} (h : MMid w wr v out) (hb : Below wr.heap.size wr w2) : MMid w w2 v out :=
  ⟨h.below.trans (hb.mono h.below.size), Kd.R_below h.row hb⟩

set_option maxHeartbeats 8000000 in
set_option maxRecDepth 100000 in
theorem meetsAll (A : Option Addr) (g o c : Nat) (l : List Sl) (w : World) (hl : RowAt w A g o l) (hs : ∀ s ∈ l, Lies w s) (hn : l.length ≤ 1000000) :
    Calls Try.prog 8 #[.slice A l.length c] w fun e w' => ∃ v out, e = .returned (.tuple #[v, .int .i64 (chk l)]) ∧ MMid w w' v out ∧ (chk l = 0 → out = mall l l.length) ∧ (chk l ≠ 0 → v = .slice none 0 0) := by
  have HC := Aside0.mk (check A g o c l w hl hn)
  have hcc := chk_cases l
  have hlim : chk l = 0 → l.length ≤ 100 := fun h => by
    unfold chk at h
    split at h
    · cases h
    · omega
  have HL := Aside0.mk hl
  have HS := Aside0.mk hs
  clear hl hs
  generalize chk l = q at *
  generalize hln : l.length = n at *
  have HN := Lib.hid hln
  clear hln
  rcases hcc with rfl | rfl
  · go_enter Try.func8, Try.ntmps8
    go_wp2_with (first | (go_at_call 21; refine HC.out.mono ?_; rintro e w2 ⟨rfl, hw2⟩; replace hw2 := hw2.symm; subst hw2))
    refine bodyPost_ret (results_tmp2 rfl _ _ _) rfl ?_
    exact ⟨_, [], rfl, ⟨Below.refl _ _, Kd.R_nil _ _ _ _ _⟩, (fun h => by cases h), fun _ => rfl⟩
  · have hn2 : n ≤ 100 := hlim rfl
    clear hlim
    go_enter Try.func8, Try.ntmps8
    go_wp2_with (first | (go_at_call 21; refine HC.out.mono ?_; rintro e w2 ⟨rfl, hw2⟩; replace hw2 := hw2.symm; subst hw2))
    go_loopw [5, 6, 7, 15] (fun v _ _ i wr => ∃ k : Nat, k ≤ n ∧ i = .int .i64 k ∧ Aside0 (MMid w wr v (mall l k))) (fun _ _ _ i _ => n - (intOf i).toNat)
    case atStart => exact ⟨0, Nat.zero_le _, rfl, ⟨Below.refl _ _, Kd.R_nil _ _ _ _ _⟩⟩
    case round =>
      obtain ⟨k, hk, rfl, HD⟩ := hrel
      by_cases hlt : k < n
      · obtain ⟨w1, hw1⟩ : ∃ w1, w1 = wr := ⟨_, rfl⟩
        subst hw1
        have hA := HL.out.A (by rw [HN.out]; omega)
        subst hA
        go_wp2
        go_loopw [5, 7] (fun v i wr => ∃ q : Nat, k + 1 + q ≤ n ∧ i = .int .i64 ((k + 1 + q : Nat) : Int) ∧ Aside0 (MMid w wr v (mrow l k (mall l k) q))) (fun _ i _ => n - (intOf i).toNat)
        case atStart => exact ⟨0, by omega, by go_num, HD⟩
        case round =>
          obtain ⟨q, hq, rfl, HD2⟩ := hrel
          obtain ⟨w2, hw2⟩ : ∃ w2, w2 = wr := ⟨_, rfl⟩
          subst hw2
          generalize hp : k + 1 + q = p at hq
          by_cases hlt2 : p < n
          · have hkl : k < l.length := by rw [HN.out]; exact hlt
            have hpl : p < l.length := by rw [HN.out]; exact hlt2
            have hrow := HL.out.below HD2.out.below
            have c1 := hrow.cell k (l.getD k sl0) (by simp [hkl])
            have c2 := hrow.cell p (l.getD p sl0) (by simp [hpl])
            have HL1 := Aside0.mk (Lies.below (HS.out (l.getD k sl0) (by simp [hkl])) HD2.out.below)
            have HL2 := Aside0.mk (Lies.below (HS.out (l.getD p sl0) (by simp [hpl])) HD2.out.below)
            have HME := Lib.hid (show mee l k p = decide (0 < (ovr (l.getD k sl0) (l.getD p sl0)).2.2) from rfl)
            have HMR := Lib.hid (show mrow l k (mall l k) (q + 1) = if mee l k p then mrow l k (mall l k) q ++ [⟨k, (p : Int)⟩] else mrow l k (mall l k) q by rw [← hp]; rfl)
            have HP := Lib.hid hp
            generalize l.getD k sl0 = s1 at *
            generalize l.getD p sl0 = s2 at *
            generalize hv1 : s1.val = v1 at c1
            generalize hv2 : s2.val = v2 at c2
            have HV1 := Aside0.mk hv1
            have HV2 := Aside0.mk hv2
            clear hrow hkl hpl hp hv1 hv2
            go_upto_region 11 with (fail)
            go_cut [34] (fun v34 wc => v34 = .bool (mee l k p) ∧ Aside0 (MMid w wc u5 (mrow l k (mall l k) q)))
            case first =>
              go_region_held3 (fun w' => w'.cell? ⟨g, o + k, none⟩ = some v1 ∧ w'.cell? ⟨g, o + p, none⟩ = some v2) (first | exact ⟨c1, c2⟩ | exact ⟨z1, z2⟩) ((go_at_call 24; rw [← HV1.out, ← HV2.out]; refine (meets s1 s2 _ (Lies.below HL1.out (below_drew (Below.refl _ _))) (Lies.below HL2.out (below_drew (Below.refl _ _)))).mono ?_; rintro e wz ⟨rfl, hb⟩; have z1 := old_oct (show (World.drew w2).cell? ⟨g, o + k, none⟩ = some v1 from c1) hb; have z2 := old_oct (show (World.drew w2).cell? ⟨g, o + p, none⟩ = some v2 from c2) hb; have HZ := Aside0.mk hb; clear hb))
              go_wp2_with fail
              go_meet
              exact ⟨by rw [HME.out], ⟨HD2.out.after ((below_drew (Below.refl _ _)).trans HZ.out)⟩⟩
            case rest =>
              obtain ⟨rfl, HD3⟩ := hcut
              clear HD2
              have hlen := mrow_le l k (mall l k) q
              have hlen2 := mall_le l k
              have HLN := Lib.hid (show (mrow l k (mall l k) q).length ≤ 1000000 by
                rw [HN.out] at hlen2
                have : k * n ≤ 100 * 100 := Nat.mul_le_mul (by omega) hn2
                have := HP.out
                omega)
              clear hlen hlen2
              by_cases hm : mee l k p = true
              · have HST := Lib.hid (show mrow l k (mall l k) (q + 1) = mrow l k (mall l k) q ++ [⟨k, (p : Int)⟩] by rw [HMR.out, if_pos hm])
                rw [hm]
                clear hm
                generalize mrow l k (mall l k) q = out at *
                obtain ⟨VA, vc, rfl⟩ := Kd.R_slice HD3.out.row
                go_wp2_with (first | ((with_reducible refine gate_builtin (b := .append) (xs := #[.tmp 35, .tmp 39]) rfl ?_); at_builtin; refine Kd.R_append kPr (w0 := w) w.heap.size rfl (.tmp 35) (.tmp 39) 32 57 (.agg #[(.int .i64 0), (.int .i64 0)]) 16 rfl Try.underlying32 infoPr rfl (by decide) (by omega) _ out (⟨(k : Int), (p : Int)⟩ : Pr) [.int .i64 (k : Int), .int .i64 (p : Int)] (fun j => w.heap.size ≤ j) (fun _ => False) rfl rfl ?aP (fun _ hk => hk.elim) ?aF ?aO ?aB ?aS ?aL ?_; (case aP => exact k57_mkM _ _ _ _); (case aF => exact (fun j hj => Nat.le_trans HD3.out.below.size hj)); (case aO => exact HD3.out.row); (case aB => exact HD3.out.below); (case aS => exact HD3.out.below.size); (case aL => have := HLN.out; omega); intro v1 w9 ho hb hg hat; have HO1 := Aside0.mk ho; have HB9 := Aside0.mk hb; clear ho hb hg hat))
                go_roundw
                case rel => exact ⟨q + 1, by have := HP.out; omega, by rw [← Nat.add_assoc, HP.out]; go_num, ⟨by rw [HST.out]; exact ⟨HB9.out, HO1.out⟩⟩⟩
                case measure => simp [intOf]; omega
              · have hm : mee l k p = false := by simpa using hm
                have HST := Lib.hid (show mrow l k (mall l k) (q + 1) = mrow l k (mall l k) q by rw [HMR.out, hm]; rfl)
                rw [hm]
                clear hm
                go_wp2
                go_roundw
                case rel => exact ⟨q + 1, by have := HP.out; omega, by rw [← Nat.add_assoc, HP.out]; go_num, ⟨by rw [HST.out]; exact HD3.out⟩⟩
                case measure => simp [intOf]; omega
          · have hpn : p = n := by omega
            have hMA : mall l (k + 1) = mrow l k (mall l k) q := by
              show mrow l k (mall l k) (l.length - (k + 1)) = _
              rw [HN.out, show n - (k + 1) = q by omega]
            have HMA := Lib.hid hMA
            clear hMA hpn hp
            go_wp2
            go_roundw
            case rel => exact ⟨k + 1, by omega, by go_num, ⟨by rw [HMA.out]; exact HD2.out⟩⟩
            case measure => simp [intOf]; omega
      · have hkn : k = n := by omega
        have HE := Aside0.mk HD.out
        rw [hkn] at HE
        clear hkn
        go_wp2
        refine bodyPost_ret (results_tmp2 rfl _ _ _) rfl ?_
        exact ⟨_, _, rfl, HE.out, fun _ => rfl, fun h => absurd rfl h⟩

end Go.Proofs.Ytghdeoeajbnfkaa.WSl
