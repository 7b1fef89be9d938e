/- Slices that are cleared, and put back, with Cover's closure; Cover. -/
import Derived.Test.YtghdeoeajbnfkaaWMeets
namespace Go.Proofs.Ytghdeoeajbnfkaa.WSl
open Go.RowKit Go.Proofs.YtghdeoeajbnfkaaW.PrintWords Go.Proofs.YtghdeoeajbnfkaaW.PrintLast Go.Proofs.YtghdeoeajbnfkaaW.PrintMore Go.Proofs.Ytghdeoeajbnfkaa.WMem
set_option linter.unusedSimpArgs false
set_option linter.unusedVariables false

/-- Mark a cell. -/
def mark (M : List (Nat × Nat)) (p : Nat × Nat) : List (Nat × Nat) := if p ∈ M then M else M ++ [p]
/-- Mark a slice's first cells. -/
def covS (s : Sl) (M : List (Nat × Nat)) : Nat → List (Nat × Nat)
  | 0 => M
  | j + 1 => mark (covS s M j) (s.b, s.o + j)
/-- Mark the first slices' cells. -/
def covA (l : List Sl) : Nat → List (Nat × Nat)
  | 0 => []
  | k + 1 => covS (l.getD k sl0) (covA l k) (l.getD k sl0).n

theorem mark_le (M : List (Nat × Nat)) (p : Nat × Nat) : (mark M p).length ≤ M.length + 1 := by
  unfold mark
  split <;> simp
theorem covS_le (s : Sl) (M : List (Nat × Nat)) : ∀ j, (covS s M j).length ≤ M.length + j
  | 0 => Nat.le_refl _
  | j + 1 => by
    have h1 := covS_le s M j
    have h2 := mark_le (covS s M j) (s.b, s.o + j)
    show (mark (covS s M j) (s.b, s.o + j)).length ≤ _
    omega
theorem covA_le (l : List Sl) (h : ∀ s ∈ l, s.n ≤ 2000) : ∀ k, (covA l k).length ≤ k * 2000
  | 0 => by simp [covA]
  | k + 1 => by
    have h1 := covA_le l h k
    have h2 := covS_le (l.getD k sl0) (covA l k) (l.getD k sl0).n
    have h3 : (l.getD k sl0).n ≤ 2000 := by
      by_cases hk : k < l.length
      · exact h _ (by simp [hk])
      · simp [show l.length ≤ k by omega, sl0]
    show (covS (l.getD k sl0) (covA l k) (l.getD k sl0).n).length ≤ _
    omega

/-- While cells are counted. -/
structure CMid (w0 wr : World) (l : List Sl) (A : Option Addr) (g o c pb pn : Nat) (M : List (Nat × Nat)) : Prop where
  only : Only (fun k i => SF l k i ∨ k = pn) w0 wr
  val : ∀ s ∈ l, ∀ j, j < s.n → wr.cell? ⟨s.b, s.o + j, none⟩ = some (.int .u8 (if (s.b, s.o + j) ∈ M then 1 else 0)) ∧ wr.frozen? ⟨s.b, s.o + j, none⟩ = false
  cnt : wr.cell? ⟨pn, 0, none⟩ = some (.int .i64 M.length)
  cfr : wr.frozen? ⟨pn, 0, none⟩ = false
  box : wr.cell? ⟨pb, 0, none⟩ = some (.slice A l.length c)
  row : RowAt wr A g o l

theorem CMid.put {w0 wr : World} {l : List Sl} {A : Option Addr} {g o c pb pn : Nat} {M : List (Nat × Nat)} (h : CMid w0 wr l A g o c pb pn M) (hpn : ∀ i, ¬ SF l pn i) (hg : ∀ i, ¬ SF l g i) (hb : ∀ i, ¬ SF l pb i) (h1 : pn ≠ g) (h2 : pn ≠ pb) (s : Sl) (hs : s ∈ l) (j : Nat) (hj : j < s.n) (hM : (s.b, s.o + j) ∉ M) :
    CMid w0 ((wr.setCell ⟨s.b, s.o + j, none⟩ (.int .u8 1)).setCell ⟨pn, 0, none⟩ (.int .i64 ((M.length : Int) + 1))) l A g o c pb pn (M ++ [(s.b, s.o + j)]) := by
  have hin : SF l s.b (s.o + j) := ⟨s, hs, rfl, by omega, by omega⟩
  have e1 : s.b ≠ pn := fun e => hpn _ (e ▸ hin)
  have e2 : s.b ≠ g := fun e => hg _ (e ▸ hin)
  have e3 : s.b ≠ pb := fun e => hb _ (e ▸ hin)
  refine ⟨(h.only.setCell _ _ (.inl (.inl hin))).setCell _ _ (.inl (.inr rfl)), fun s' hs' j' hj' => ⟨?_, ?_⟩, ?_, ?_, ?_, ⟨h.row.A, fun i s' hi => ?_⟩⟩
  · have hin' : SF l s'.b (s'.o + j') := ⟨s', hs', rfl, by omega, by omega⟩
    have e4 : pn ≠ s'.b := fun e => hpn _ (e ▸ hin')
    rw [World.cell?_setCell_far _ _ _ _ e4]
    by_cases he : s.b = s'.b ∧ s.o + j = s'.o + j'
    · rw [he.1, he.2, World.cell?_setCell_same _ _ _ (h.val s' hs' j' hj').1, if_pos (by simp)]
    · rw [World.cell?_setCell_other (h := at_ne he), (h.val s' hs' j' hj').1]
      congr 3
      have : (s'.b, s'.o + j') ≠ (s.b, s.o + j) := fun e => he (by injection e with x y; exact ⟨x.symm, y.symm⟩)
      simp [this]
  · rw [World.frozen?_setCell, World.frozen?_setCell]
    exact (h.val s' hs' j' hj').2
  · rw [World.cell?_setCell_same _ _ _ ((World.cell?_setCell_far _ _ _ _ e1).trans h.cnt)]
    simp
  · rw [World.frozen?_setCell, World.frozen?_setCell]
    exact h.cfr
  · rw [World.cell?_setCell_far _ _ _ _ h2, World.cell?_setCell_far _ _ _ _ e3]
    exact h.box
  · rw [World.cell?_setCell_far _ _ _ _ h1, World.cell?_setCell_far _ _ _ _ e2]
    exact h.row.cell i s' hi

set_option maxHeartbeats 8000000 in
set_option maxRecDepth 100000 in
theorem cover1 (l : List Sl) (A : Option Addr) (g o c pb pn : Nat) (w : World) (h : CMid w w l A g o c pb pn []) (hpn : ∀ i, ¬ SF l pn i) (hg : ∀ i, ¬ SF l g i) (hb : ∀ i, ¬ SF l pb i) (h1 : pn ≠ g) (h2 : pn ≠ pb)
    (hn : l.length ≤ 100) (hsn : ∀ s ∈ l, s.n ≤ 2000) (hsA : ∀ s ∈ l, 0 < s.n → s.A = some ⟨s.b, s.o, none⟩) :
    Calls Try.prog 28 #[.pointer (some ⟨pb, 0, none⟩), .pointer (some ⟨pn, 0, none⟩)] w fun e w' => e = .returned (.tuple #[]) ∧ CMid w w' l A g o c pb pn (covA l l.length) := by
  have HL := covA_le l hsn
  have hbox := h.box
  have H := Aside0.mk h
  have HSN := Aside0.mk hsn
  have HSA := Aside0.mk hsA
  have HLE := Aside0.mk HL
  have HP := Aside0.mk (And.intro hpn (And.intro hg (And.intro hb (And.intro h1 h2))))
  clear h hsn hsA HL hpn hg hb h1 h2
  generalize hln : l.length = n at *
  have HN := Lib.hid hln
  clear hln
  go_enter Try.func28, Try.ntmps28
  go_wp2
  go_loopw [3, 4, 7] (fun _ _ i wr => ∃ k : Nat, k ≤ n ∧ i = .int .i64 k ∧ Aside0 (CMid w wr l A g o c pb pn (covA l k))) (fun _ _ i _ => n - (intOf i).toNat)
  case atStart => exact ⟨0, Nat.zero_le _, rfl, H⟩
  case round =>
    obtain ⟨k, hk, rfl, HD⟩ := hrel
    by_cases hlt : k < n
    · obtain ⟨w1, hw1⟩ : ∃ w1, w1 = wr := ⟨_, rfl⟩
      subst hw1
      have hA := HD.out.row.A (by rw [HN.out]; omega)
      subst hA
      have hkl : k < l.length := by rw [HN.out]; exact hlt
      have c1 := HD.out.row.cell k (l.getD k sl0) (by simp [hkl])
      have hmem : l.getD k sl0 ∈ l := by simp [hkl]
      have hv : (l.getD k sl0).val = .slice (l.getD k sl0).A (l.getD k sl0).n (l.getD k sl0).c := rfl
      rw [hv] at c1
      have hnext : covA l (k + 1) = covS (l.getD k sl0) (covA l k) (l.getD k sl0).n := rfl
      have hs2 := HSN.out _ hmem
      have hsA := HSA.out _ hmem
      have hlen := HLE.out k
      have hkk : k * 2000 ≤ 200000 := by omega
      have HCL := Lib.hid (show (covA l k).length ≤ 200000 by omega)
      clear hlen hkk hkl hv
      generalize covA l k = M at *
      have HNX := Lib.hid hnext
      have HMEM := Lib.hid hmem
      have HAS := Lib.hid hsA
      clear hnext hmem hsA
      generalize hsk : l.getD k sl0 = s at *
      clear hsk
      generalize hsn : s.n = sn at c1 hs2
      generalize hsA2 : s.A = sA at c1
      generalize s.c = sc at c1
      have HSN2 := Lib.hid hsn
      have HSA2 := Lib.hid hsA2
      clear hsn hsA2
      go_wp2
      go_loopw [4, 13] (fun _ i wr => ∃ j : Nat, j ≤ sn ∧ i = .int .i64 j ∧ Aside0 (CMid w wr l (some ⟨g, o, none⟩) g o c pb pn (covS s M j))) (fun _ i _ => sn - (intOf i).toNat)
      case atStart => exact ⟨0, Nat.zero_le _, rfl, HD⟩
      case round =>
        obtain ⟨j, hj, rfl, HD2⟩ := hrel
        by_cases hlt2 : j < sn
        · have hA2 := HAS.out (by rw [HSN2.out]; omega)
          rw [HSA2.out] at hA2
          subst hA2
          obtain ⟨d1, d2⟩ := HD2.out.val s HMEM.out j (by rw [HSN2.out]; exact hlt2)
          have d3 := HD2.out.cnt
          have d4 := HD2.out.cfr
          have hst : covS s M (j + 1) = mark (covS s M j) (s.b, s.o + j) := rfl
          have hle := covS_le s M j
          have hne : pn ≠ s.b := fun e => HP.out.1 (s.o + j) ⟨s, HMEM.out, e, by omega, by rw [HSN2.out]; omega⟩
          have hcl := HCL.out
          have hlen : (covS s M j).length ≤ 1000000 := by omega
          clear hle hcl
          by_cases hm : (s.b, s.o + j) ∈ covS s M j
          · rw [if_pos hm] at d1
            have HST := Lib.hid (show covS s M (j + 1) = covS s M j by rw [hst]; unfold mark; rw [if_pos hm])
            clear hst hm
            go_wp2
            go_roundw
            case rel => exact ⟨j + 1, by omega, by go_num, ⟨by rw [HST.out]; exact HD2.out⟩⟩
            case measure => simp [intOf]; omega
          · rw [if_neg hm] at d1
            have HST := Lib.hid (show covS s M (j + 1) = covS s M j ++ [(s.b, s.o + j)] by rw [hst]; unfold mark; rw [if_neg hm])
            have HX := Aside0.mk (HD2.out.put HP.out.1 HP.out.2.1 HP.out.2.2.1 HP.out.2.2.2.1 HP.out.2.2.2.2 s HMEM.out j (by rw [HSN2.out]; exact hlt2) hm)
            clear hst hm
            generalize (covS s M j).length = m at *
            have hne2 : s.b ≠ pn := hne.symm
            go_wp2
            go_roundw
            case rel => exact ⟨j + 1, by omega, by go_num, ⟨by rw [HST.out]; exact HX.out⟩⟩
            case measure => simp [intOf]; omega
        · have hjn : j = sn := by omega
          have HE := Aside0.mk (show CMid w wr l (some ⟨g, o, none⟩) g o c pb pn (covA l (k + 1)) by rw [HNX.out, HSN2.out, ← hjn]; exact HD2.out)
          clear hjn
          go_wp2
          go_roundw
          case rel => exact ⟨k + 1, by omega, by go_num, HE⟩
          case measure => simp [intOf]; omega
    · have hkn : k = n := by omega
      have HE := Aside0.mk HD.out
      rw [hkn] at HE
      clear hkn
      go_wp2
      go_end0
      exact ⟨rfl, HE.out⟩

end Go.Proofs.Ytghdeoeajbnfkaa.WSl

namespace Go.Proofs.Ytghdeoeajbnfkaa.WSl
open Go.RowKit Go.Proofs.YtghdeoeajbnfkaaW.PrintWords Go.Proofs.YtghdeoeajbnfkaaW.PrintLast Go.Proofs.YtghdeoeajbnfkaaW.PrintMore Go.Proofs.Ytghdeoeajbnfkaa.WMem
set_option linter.unusedSimpArgs false
set_option linter.unusedVariables false

set_option maxHeartbeats 4000000 in
set_option maxRecDepth 100000 in
theorem triedC (A : Option Addr) (g o c : Nat) (l : List Sl) (caps : Array Value) (V : Nat → Nat → Prop) (Res : World → Prop) (w : World)
    (hl : RowAt w A g o l) (hg : ∀ i, ¬ SF l g i) (hgV : ∀ i, ¬ V g i) (hs : ∀ s ∈ l, Lies w s) (hn : l.length ≤ 1000000) (hV : ∀ k i, V k i → k < w.heap.size)
    (hdo : ∀ w1 w2, Below w.heap.size w w1 → Only (SF l) w1 w2 → (∀ s ∈ l, Zero w2 s) → Calls Try.prog 28 caps w2 fun e w3 => e = .returned (.tuple #[]) ∧ Only (fun k i => SF l k i ∨ V k i) w2 w3 ∧ (∀ s ∈ l, Lies w3 s) ∧ Res w3)
    (hRes : ∀ w3 w4, Only (SF l) w3 w4 → Res w3 → Res w4) :
    Calls Try.prog 27 #[.slice A l.length c, .func (.func 28) #[] caps] w fun e w' => e = .returned (.tuple #[]) ∧ Only V w w' ∧ Res w' := by
  have HL := Aside0.mk hl
  have HS := Aside0.mk hs
  have HD := Aside0.mk hdo
  have HR := Aside0.mk hRes
  have HG := Aside0.mk hg
  have HGV := Aside0.mk hgV
  have HVL := Aside0.mk hV
  clear hl hs hdo hRes hg hgV hV
  generalize hln : l.length = n at hn
  have HN := Lib.hid hln
  clear hln
  go_enter Try.func27, Try.ntmps27
  go_wp2
  go_loopw [4, 6, 13] (fun v _ i wr => ∃ k : Nat, k ≤ n ∧ i = .int .i64 k ∧ Aside0 (Mid1 w wr l k v)) (fun _ _ i _ => n - (intOf i).toNat)
  case atStart => exact ⟨0, Nat.zero_le _, rfl, ⟨Below.refl _ _, Kd.R_nil _ _ _ _ _⟩⟩
  case round =>
    obtain ⟨k, hk, rfl, HM⟩ := hrel
    by_cases hlt : k < n
    · have hkl : k < l.length := by rw [HN.out]; exact hlt
      have hrow := HL.out.below HM.out.below
      have hA := hrow.A (by omega)
      subst hA
      have hcell := hrow.cell k l[k] (by simp)
      have hLk := Lies.below (HS.out l[k] (List.getElem_mem _)) HM.out.below
      have hOk := octsOf_below (HS.out l[k] (List.getElem_mem _)) HM.out.below
      have HK := Lib.hid hkl
      generalize hsk : l[k] = sk at hcell hLk hOk
      have HSK := Aside0.mk hsk
      have HLk := Aside0.mk hLk
      have HOk := Aside0.mk hOk
      generalize hsv : sk.val = sv at hcell
      have HSV := Aside0.mk hsv
      clear hkl hrow hLk hOk hsk hsv
      obtain ⟨A4, c4, rfl⟩ := HM.out.slice (by rw [HN.out]; exact hk)
      go_wp2_with (first | (go_at_call 32; rw [← HSV.out]; refine (clone sk _ HLk.out).mono ?_; rintro e w2 ⟨v1, rfl, hv, hb⟩; obtain ⟨A1, c1, rfl⟩ := Kd.R_slice hv; have HV1 := Aside0.mk hv; have HB1 := Aside0.mk hb; clear hv hb) | (at_builtin; refine Kd.R_append KL (w0 := w) w.heap.size rfl (.tmp 17) (.tmp 20) 31 22 (.slice none 0 0) 24 rfl Try.underlying31 info22 rfl (by decide) (by omega) _ (kept w (l.take k)) (octsOf wr sk) [.slice A1 (octsOf wr sk).length c1] (fun j => w.heap.size ≤ j) (fun j => wr.heap.size ≤ j) rfl rfl ?aP ?aK ?aF ?aO ?aB ?aS ?aL ?_; (case aP => exact ⟨_, rfl, Kd.R_lower HV1.out HM.out.below.size⟩); (case aK => exact (fun j hj => ⟨Nat.le_trans HM.out.below.size hj, fun e => absurd (Kd.R_lt HM.out.row _ e.symm) (by omega)⟩)); (case aF => exact (fun j hj => Nat.le_trans (Nat.le_trans HM.out.below.size HB1.out.size) hj)); (case aO => exact Kd.R_below HM.out.row HB1.out); (case aB => exact HM.out.below.trans (HB1.out.mono HM.out.below.size)); (case aS => exact Nat.le_trans HM.out.below.size HB1.out.size); (case aL => simp [kept]; omega); intro v1 w9 ho hb hg hat; have HO1 := Aside0.mk ho; have HB9 := Aside0.mk hb; clear ho hb hg hat))
      go_roundw
      case rel => exact ⟨k + 1, by omega, by go_num, ⟨Mid1.next HK.out HSK.out HOk.out HO1.out HB9.out⟩⟩
      case measure => simp [intOf]; omega
    · have hkn : k = n := by omega
      subst hkn
      obtain ⟨w1, hw1⟩ : ∃ w1, w1 = wr := ⟨_, rfl⟩
      subst hw1
      obtain ⟨A4, c4, rfl⟩ := HM.out.slice (by rw [HN.out]; exact hk)
      have HL1 := Aside0.mk (HL.out.below HM.out.below)
      go_wp2
      go_loopw [8, 25] (fun _ i ws => ∃ q : Nat, q ≤ k ∧ i = .int .i64 q ∧ Aside0 (Mid2 w1 ws l q)) (fun _ i _ => k - (intOf i).toNat)
      case atStart => exact ⟨0, Nat.zero_le _, rfl, ⟨Only.refl _, fun s hs => by simp at hs, fun s hs => Lies.below (HS.out s hs) HM.out.below⟩⟩
      case round =>
        obtain ⟨q, hq, rfl, HM2⟩ := hrel
        by_cases hlt2 : q < k
        · have hql : q < l.length := by rw [HN.out]; exact hlt2
          have hrow := HL1.out.only HM2.out.only HG.out
          have hA := hrow.A (by omega)
          subst hA
          have hcell := hrow.cell q l[q] (by simp)
          have HX := Aside0.mk (HM2.out.next hql)
          have hcl := fun ty => run_clear wr l[q] (HM2.out.lies _ (List.getElem_mem _)) ty
          generalize wr.setCells l[q].b l[q].o (List.replicate l[q].n (.int .u8 0)) = wn at hcl HX
          generalize l[q].val = sv at hcell hcl
          clear hrow
          go_wp2
          go_roundw
          case rel => exact ⟨q + 1, by omega, by go_num, HX⟩
          case measure => simp [intOf]; omega
        · have hqn : q = k := by omega
          subst hqn
          obtain ⟨w2, hw2⟩ : ∃ w2, w2 = wr := ⟨_, rfl⟩
          subst hw2
          have htake : l.take q = l := by rw [← HN.out]; exact List.take_length
          have HZ := Aside0.mk (show ∀ s ∈ l, Zero w2 s from fun s hs => ⟨HM2.out.lies s hs, HM2.out.zero s (by rw [htake]; exact hs)⟩)
          have HT := Lib.hid htake
          clear htake
          go_wp2_with (first | (go_at_call 28; refine (HD.out w1 w2 HM.out.below HM2.out.only HZ.out).mono ?_; rintro e w3 ⟨rfl, h3, hl3, hr3⟩; have H3 := Aside0.mk h3; have HL3 := Aside0.mk hl3; have HR3 := Aside0.mk hr3; clear h3 hl3 hr3))
          have HW3 := Aside0.mk ((HL1.out.only HM2.out.only HG.out).only H3.out (fun i hi => hi.elim (HG.out i) (HGV.out i)))
          have HK3 := Aside0.mk (kept_stays (kept_stays (V := V) HM.out.row HS.out HVL.out (Only.sf HM2.out.only)) HS.out HVL.out H3.out)
          go_loopw [9, 10, 35] (fun _ _ i ws => ∃ p : Nat, p ≤ q ∧ i = .int .i64 p ∧ Aside0 (Mid3 w w3 ws l p)) (fun _ _ i _ => q - (intOf i).toNat)
          case atStart => exact ⟨0, Nat.zero_le _, rfl, ⟨Only.refl _, fun s hs => by simp at hs, HL3.out⟩⟩
          case round =>
            obtain ⟨p, hp, rfl, HM3⟩ := hrel
            by_cases hlt3 : p < q
            · have hpl : p < l.length := by rw [HN.out]; exact hlt3
              have hrow := HW3.out.only HM3.out.only HG.out
              have hA := hrow.A (by omega)
              subst hA
              have hcell := hrow.cell p l[p] (by simp)
              have hkept := kept_stays (V := V) HK3.out HS.out HVL.out (Only.sf HM3.out.only)
              rw [HT.out] at hkept
              have hkept2 : Kd.R KL 22 wr w.heap.size (fun j => w.heap.size ≤ j) (.slice A4 l.length c4) (kept w l) := by rw [HN.out]; exact hkept
              obtain ⟨ad, B, c0, rfl, hkc, hkr⟩ := kept_at hkept2 p hpl
              have HX := Aside0.mk (HM3.out.next HS.out hpl)
              have hcl := fun ty => run_copy wr l[p] (HM3.out.lies _ (List.getElem_mem _)) B c0 (octsOf w l[p]) (octsOf_length _ _) hkr ty
              generalize wr.setCells l[p].b l[p].o ((octsOf w l[p]).map (.int .u8)) = wn at hcl HX
              generalize l[p].val = sv at hcell hcl
              generalize l[p].n = m at hkc hcl
              clear hrow hkept hkept2 hkr
              go_wp2
              go_roundw
              case rel => exact ⟨p + 1, by omega, by go_num, HX⟩
              case measure => simp [intOf]; omega
            · have hpq : p = q := by omega
              subst hpq
              have HO := Aside0.mk (put_back HM.out.below HM2.out.only H3.out HM3.out.only (fun s hs => HM3.out.back s (by rw [HT.out]; exact hs)))
              have HE := Aside0.mk (HR.out _ _ HM3.out.only HR3.out)
              go_wp2
              go_end0
              exact ⟨rfl, HO.out, HE.out⟩

/-- The world behind Cover's variables. -/
def covWorld (w : World) (A : Option Addr) (n c : Nat) : World :=
  ((w.alloc (.cells #[.slice A n c] 31)).alloc (.cells #[.int .i64 0] 3)).setCell ⟨w.heap.size + 1, 0, none⟩ (.int .i64 0)

theorem cov_same (w : World) (A : Option Addr) (n c : Nat) : covWorld w A n c = (w.alloc (.cells #[.slice A n c] 31)).alloc (.cells #[.int .i64 0] 3) := by
  unfold covWorld
  refine setCell_self ?_ rfl
  rw [blk_cell (heap_alloc2_new w (.cells #[.slice A n c] 31) (.cells #[.int .i64 0] 3))]
  rfl

theorem cov_below (w : World) (A : Option Addr) (n c : Nat) : Below w.heap.size w (covWorld w A n c) := by
  rw [cov_same]
  exact below_alloc (below_alloc (Below.refl _ _) _) _

theorem cov_tried (w : World) (A : Option Addr) (g o c : Nat) (l : List Sl) (hl : RowAt w A g o l) (hgl : g < w.heap.size) (hg : ∀ i, ¬ SF l g i) (hs : ∀ s ∈ l, Lies w s) (hn : l.length ≤ 100) (hsn : ∀ s ∈ l, s.n ≤ 2000) :
    Calls Try.prog 27 #[.slice A l.length c, .func (.func 28) #[] #[.pointer (some ⟨w.heap.size, 0, none⟩), .pointer (some ⟨w.heap.size + 1, 0, none⟩)]] (covWorld w A l.length c) fun e w' =>
      e = .returned (.tuple #[]) ∧ Below w.heap.size w w' ∧ w'.cell? ⟨w.heap.size + 1, 0, none⟩ = some (.int .i64 (covA l l.length).length) := by
  have hB := cov_below w A l.length c
  have hF : ∀ k i, SF l k i → k < w.heap.size := fun k i ⟨s, hsl, hh⟩ => (hs s hsl).lt' hh
  have hsz : (covWorld w A l.length c).heap.size = w.heap.size + 2 := by rw [cov_same]; simp
  have b1 : (covWorld w A l.length c).heap[w.heap.size + 1]? = some (.cells #[.int .i64 0] 3) := by
    rw [cov_same]
    exact heap_alloc2_new w (.cells #[.slice A l.length c] 31) (.cells #[.int .i64 0] 3)
  have b0 : (covWorld w A l.length c).heap[w.heap.size]? = some (.cells #[.slice A l.length c] 31) := by
    rw [cov_same]
    exact blk_alloc (blk_new _ _) _
  have := triedC A g o c l #[.pointer (some ⟨w.heap.size, 0, none⟩), .pointer (some ⟨w.heap.size + 1, 0, none⟩)]
    (fun k _ => k = w.heap.size + 1) (fun w' => w'.cell? ⟨w.heap.size + 1, 0, none⟩ = some (.int .i64 (covA l l.length).length)) (covWorld w A l.length c) (hl.below hB) hg (fun i h => by omega)
    (fun s hsl => Lies.below (hs s hsl) hB) (by omega) (fun k i h => by omega)
    (fun w1 w2 h1 h2 hz => by
      have e1 : w2.heap[w.heap.size + 1]? = some (.cells #[.int .i64 0] 3) := by
        rw [h2.keep (by have := h1.size; omega) (fun i hh => by have := hF _ _ hh; omega), h1.block _ (by omega)]
        exact b1
      have e0 : w2.heap[w.heap.size]? = some (.cells #[.slice A l.length c] 31) := by
        rw [h2.keep (by have := h1.size; omega) (fun i hh => by have := hF _ _ hh; omega), h1.block _ (by omega)]
        exact b0
      refine (cover1 l A g o c w.heap.size (w.heap.size + 1) w2 ⟨Only.refl _, fun s hsl j hj => ⟨by simpa using (hz s hsl).zero j hj, ((hz s hsl).lies.cell j hj).choose_spec.2⟩, by rw [blk_cell e1]; rfl, blk_frozen e1 0, by rw [blk_cell e0]; rfl, ((hl.below hB).below h1).only h2 hg⟩ (fun i hh => by have := hF _ _ hh; omega) hg (fun i hh => by have := hF _ _ hh; omega) (by omega) (by omega) hn hsn (fun s hsl hn => Sl.A_some (hs s hsl).nil hn)).mono ?_
      rintro e w3 ⟨rfl, h3⟩
      exact ⟨rfl, h3.only, fun s hsl => Lies.only (hz s hsl).lies h3.only (fun j hj => ⟨_, (h3.val s hsl j hj).1⟩), h3.cnt⟩)
    (fun w3 w4 h1 h2 => by
      rw [← h2]
      exact h1.cell ⟨w.heap.size + 1, 0, none⟩ (cell_lt h2) (fun hh => by have := hF _ _ hh; simp only at this; omega))
  refine this.mono ?_
  rintro e w' ⟨rfl, h1, h2⟩
  exact ⟨rfl, hB.trans (h1.below (by omega) (fun k i h => by omega)), h2⟩

set_option maxHeartbeats 4000000 in
set_option maxRecDepth 100000 in
theorem cover (A : Option Addr) (g o c : Nat) (l : List Sl) (w : World) (hl : RowAt w A g o l) (hgl : g < w.heap.size) (hg : ∀ i, ¬ SF l g i) (hs : ∀ s ∈ l, Lies w s) (hn : l.length ≤ 1000000) :
    Calls Try.prog 10 #[.slice A l.length c] w fun e w' => ∃ n : Int, e = .returned (.tuple #[.int .i64 n, .int .i64 (chk l)]) ∧ Below w.heap.size w w' ∧ (chk l = 0 → n = (covA l l.length).length) := by
  have hmf : ∀ (fn : Fn) (first cap : Array Value) (w : World), (Instr.makeFunc fn first cap).run Try.prog w = .ok (.func fn first cap) w := fun _ _ _ _ => rfl
  have HC := Aside0.mk (check A g o c l (w.alloc (.cells #[.slice A l.length c] 31)) (hl.below (below_alloc (Below.refl _ _) _)) hn)
  have hcc := chk_cases l
  have hlim : chk l = 0 → l.length ≤ 100 ∧ ∀ s ∈ l, s.n ≤ 2000 := fun h => by
    unfold chk at h
    split at h
    · cases h
    · next h1 =>
      split at h
      · cases h
      · next h2 => exact ⟨by omega, fun s hs => Nat.le_of_not_lt (fun h3 => h2 ⟨s, hs, h3⟩)⟩
  have HT := Aside0.mk (fun h : chk l = 0 => cov_tried w A g o c l hl hgl hg hs (hlim h).1 (hlim h).2)
  have HW := Lib.hid (cov_same w A l.length c)
  clear hl hg hs hlim
  generalize hq : chk l = q at *
  generalize hcv : (covA l l.length).length = m at *
  generalize l.length = n at *
  rcases hcc with rfl | rfl
  · go_enter Try.func10, Try.ntmps10
    go_wp2_with (first | (go_at_call 21; refine HC.out.mono ?_; rintro e w2 ⟨rfl, rfl⟩))
    refine bodyPost_ret (results_tmp2 rfl _ _ _) rfl ?_
    exact ⟨0, rfl, below_alloc (Below.refl _ _) _, fun h => by cases h⟩
  · have HT2 := Aside0.mk (HT.out rfl)
    clear HT
    go_enter Try.func10, Try.ntmps10
    go_wp2_with (first | (go_at_call 21; refine HC.out.mono ?_; rintro e w2 ⟨rfl, rfl⟩) | (go_at_call 27; rw [← HW.out]; refine HT2.out.mono ?_; rintro e w3 ⟨rfl, hB, hc⟩; have HB := Aside0.mk hB; clear hB))
    refine bodyPost_ret (results_tmp2 rfl _ _ _) rfl ?_
    exact ⟨m, rfl, HB.out, fun _ => rfl⟩

end Go.Proofs.Ytghdeoeajbnfkaa.WSl
