/- Cover's closure. -/
import Derived.Test.YtghdeoeajbnfkaaWMeets
namespace Go.Proofs.Ytghdeoeajbnfkaa.WSl
open Go.RowKit Go.Proofs.YtghdeoeajbnfkaaW.PrintWords Go.Proofs.YtghdeoeajbnfkaaW.PrintLast Go.Proofs.YtghdeoeajbnfkaaW.PrintMore Go.Proofs.Ytghdeoeajbnfkaa.WMem
set_option linter.unusedSimpArgs false
set_option linter.unusedVariables false

/-- Mark a cell. -/
def mark (M : List (Nat × Nat)) (p : Nat × Nat) : List (Nat × Nat) := if p ∈ M then M else M ++ [p]
/-- Mark a slice's first cells. -/
def covS (s : Sl) (M : List (Nat × Nat)) : Nat → List (Nat × Nat)
  | 0 => M
  | j + 1 => mark (covS s M j) (s.b, s.o + j)
/-- Mark the first slices' cells. -/
def covA (l : List Sl) : Nat → List (Nat × Nat)
  | 0 => []
  | k + 1 => covS (l.getD k sl0) (covA l k) (l.getD k sl0).n

theorem mark_le (M : List (Nat × Nat)) (p : Nat × Nat) : (mark M p).length ≤ M.length + 1 := by
  unfold mark
  split <;> simp
theorem covS_le (s : Sl) (M : List (Nat × Nat)) : ∀ j, (covS s M j).length ≤ M.length + j
  | 0 => Nat.le_refl _
  | j + 1 => by
    have h1 := covS_le s M j
    have h2 := mark_le (covS s M j) (s.b, s.o + j)
    show (mark (covS s M j) (s.b, s.o + j)).length ≤ _
    omega
theorem covA_le (l : List Sl) (h : ∀ s ∈ l, s.n ≤ 2000) : ∀ k, (covA l k).length ≤ k * 2000
  | 0 => by simp [covA]
  | k + 1 => by
    have h1 := covA_le l h k
    have h2 := covS_le (l.getD k sl0) (covA l k) (l.getD k sl0).n
    have h3 : (l.getD k sl0).n ≤ 2000 := by
      by_cases hk : k < l.length
      · exact h _ (by simp [hk])
      · simp [show l.length ≤ k by omega, sl0]
    show (covS (l.getD k sl0) (covA l k) (l.getD k sl0).n).length ≤ _
    omega

/-- While cells are counted. -/
structure CMid (w0 wr : World) (l : List Sl) (A : Option Addr) (g o c pb pn : Nat) (M : List (Nat × Nat)) : Prop where
  only : Only (fun k i => SF l k i ∨ k = pn) w0 wr
  val : ∀ s ∈ l, ∀ j, j < s.n → wr.cell? ⟨s.b, s.o + j, none⟩ = some (.int .u8 (if (s.b, s.o + j) ∈ M then 1 else 0)) ∧ wr.frozen? ⟨s.b, s.o + j, none⟩ = false
  cnt : wr.cell? ⟨pn, 0, none⟩ = some (.int .i64 M.length)
  cfr : wr.frozen? ⟨pn, 0, none⟩ = false
  box : wr.cell? ⟨pb, 0, none⟩ = some (.slice A l.length c)
  row : RowAt wr A g o l

theorem CMid.put {w0 wr : World} {l : List Sl} {A : Option Addr} {g o c pb pn : Nat} {M : List (Nat × Nat)} (h : CMid w0 wr l A g o c pb pn M) (hpn : ∀ i, ¬ SF l pn i) (hg : ∀ i, ¬ SF l g i) (hb : ∀ i, ¬ SF l pb i) (h1 : pn ≠ g) (h2 : pn ≠ pb) (s : Sl) (hs : s ∈ l) (j : Nat) (hj : j < s.n) (hM : (s.b, s.o + j) ∉ M) :
    CMid w0 ((wr.setCell ⟨s.b, s.o + j, none⟩ (.int .u8 1)).setCell ⟨pn, 0, none⟩ (.int .i64 ((M.length : Int) + 1))) l A g o c pb pn (M ++ [(s.b, s.o + j)]) := by
  have hin : SF l s.b (s.o + j) := ⟨s, hs, rfl, by omega, by omega⟩
  have e1 : s.b ≠ pn := fun e => hpn _ (e ▸ hin)
  have e2 : s.b ≠ g := fun e => hg _ (e ▸ hin)
  have e3 : s.b ≠ pb := fun e => hb _ (e ▸ hin)
  refine ⟨(h.only.setCell _ _ (.inl (.inl hin))).setCell _ _ (.inl (.inr rfl)), fun s' hs' j' hj' => ⟨?_, ?_⟩, ?_, ?_, ?_, ⟨h.row.A, fun i s' hi => ?_⟩⟩
  · have hin' : SF l s'.b (s'.o + j') := ⟨s', hs', rfl, by omega, by omega⟩
    have e4 : pn ≠ s'.b := fun e => hpn _ (e ▸ hin')
    rw [World.cell?_setCell_far _ _ _ _ e4]
    by_cases he : s.b = s'.b ∧ s.o + j = s'.o + j'
    · rw [he.1, he.2, World.cell?_setCell_same _ _ _ (h.val s' hs' j' hj').1, if_pos (by simp)]
    · rw [World.cell?_setCell_other (h := at_ne he), (h.val s' hs' j' hj').1]
      congr 3
      have : (s'.b, s'.o + j') ≠ (s.b, s.o + j) := fun e => he (by injection e with x y; exact ⟨x.symm, y.symm⟩)
      simp [this]
  · rw [World.frozen?_setCell, World.frozen?_setCell]
    exact (h.val s' hs' j' hj').2
  · rw [World.cell?_setCell_same _ _ _ ((World.cell?_setCell_far _ _ _ _ e1).trans h.cnt)]
    simp
  · rw [World.frozen?_setCell, World.frozen?_setCell]
    exact h.cfr
  · rw [World.cell?_setCell_far _ _ _ _ h2, World.cell?_setCell_far _ _ _ _ e3]
    exact h.box
  · rw [World.cell?_setCell_far _ _ _ _ h1, World.cell?_setCell_far _ _ _ _ e2]
    exact h.row.cell i s' hi

set_option maxHeartbeats 8000000 in
set_option maxRecDepth 100000 in
theorem cover1 (l : List Sl) (A : Option Addr) (g o c pb pn : Nat) (w : World) (h : CMid w w l A g o c pb pn []) (hpn : ∀ i, ¬ SF l pn i) (hg : ∀ i, ¬ SF l g i) (hb : ∀ i, ¬ SF l pb i) (h1 : pn ≠ g) (h2 : pn ≠ pb)
    (hn : l.length ≤ 100) (hsn : ∀ s ∈ l, s.n ≤ 2000) (hsA : ∀ s ∈ l, 0 < s.n → s.A = some ⟨s.b, s.o, none⟩) :
    Calls Try.prog 28 #[.pointer (some ⟨pb, 0, none⟩), .pointer (some ⟨pn, 0, none⟩)] w fun e w' => e = .returned (.tuple #[]) ∧ CMid w w' l A g o c pb pn (covA l l.length) := by
  have HL := covA_le l hsn
  have hbox := h.box
  have H := Aside0.mk h
  have HSN := Aside0.mk hsn
  have HSA := Aside0.mk hsA
  have HLE := Aside0.mk HL
  have HP := Aside0.mk (And.intro hpn (And.intro hg (And.intro hb (And.intro h1 h2))))
  clear h hsn hsA HL hpn hg hb h1 h2
  generalize hln : l.length = n at *
  have HN := Lib.hid hln
  clear hln
  go_enter Try.func28, Try.ntmps28
  go_wp2
  go_loopw [3, 4, 7] (fun _ _ i wr => ∃ k : Nat, k ≤ n ∧ i = .int .i64 k ∧ Aside0 (CMid w wr l A g o c pb pn (covA l k))) (fun _ _ i _ => n - (intOf i).toNat)
  case atStart => exact ⟨0, Nat.zero_le _, rfl, H⟩
  case round =>
    obtain ⟨k, hk, rfl, HD⟩ := hrel
    by_cases hlt : k < n
    · obtain ⟨w1, hw1⟩ : ∃ w1, w1 = wr := ⟨_, rfl⟩
      subst hw1
      have hA := HD.out.row.A (by rw [HN.out]; omega)
      subst hA
      have hkl : k < l.length := by rw [HN.out]; exact hlt
      have c1 := HD.out.row.cell k (l.getD k sl0) (by simp [hkl])
      have hmem : l.getD k sl0 ∈ l := by simp [hkl]
      have hv : (l.getD k sl0).val = .slice (l.getD k sl0).A (l.getD k sl0).n (l.getD k sl0).c := rfl
      rw [hv] at c1
      have hnext : covA l (k + 1) = covS (l.getD k sl0) (covA l k) (l.getD k sl0).n := rfl
      have hs2 := HSN.out _ hmem
      have hsA := HSA.out _ hmem
      have hlen := HLE.out k
      have hkk : k * 2000 ≤ 200000 := by omega
      have HCL := Lib.hid (show (covA l k).length ≤ 200000 by omega)
      clear hlen hkk hkl hv
      generalize covA l k = M at *
      have HNX := Lib.hid hnext
      have HMEM := Lib.hid hmem
      have HAS := Lib.hid hsA
      clear hnext hmem hsA
      generalize hsk : l.getD k sl0 = s at *
      clear hsk
      generalize hsn : s.n = sn at c1 hs2
      generalize hsA2 : s.A = sA at c1
      generalize s.c = sc at c1
      have HSN2 := Lib.hid hsn
      have HSA2 := Lib.hid hsA2
      clear hsn hsA2
      go_wp2
      go_loopw [4, 13] (fun _ i wr => ∃ j : Nat, j ≤ sn ∧ i = .int .i64 j ∧ Aside0 (CMid w wr l (some ⟨g, o, none⟩) g o c pb pn (covS s M j))) (fun _ i _ => sn - (intOf i).toNat)
      case atStart => exact ⟨0, Nat.zero_le _, rfl, HD⟩
      case round =>
        obtain ⟨j, hj, rfl, HD2⟩ := hrel
        by_cases hlt2 : j < sn
        · have hA2 := HAS.out (by rw [HSN2.out]; omega)
          rw [HSA2.out] at hA2
          subst hA2
          obtain ⟨d1, d2⟩ := HD2.out.val s HMEM.out j (by rw [HSN2.out]; exact hlt2)
          have d3 := HD2.out.cnt
          have d4 := HD2.out.cfr
          have hst : covS s M (j + 1) = mark (covS s M j) (s.b, s.o + j) := rfl
          have hle := covS_le s M j
          have hne : pn ≠ s.b := fun e => HP.out.1 (s.o + j) ⟨s, HMEM.out, e, by omega, by rw [HSN2.out]; omega⟩
          have hcl := HCL.out
          have hlen : (covS s M j).length ≤ 1000000 := by omega
          clear hle hcl
          by_cases hm : (s.b, s.o + j) ∈ covS s M j
          · rw [if_pos hm] at d1
            have HST := Lib.hid (show covS s M (j + 1) = covS s M j by rw [hst]; unfold mark; rw [if_pos hm])
            clear hst hm
            go_wp2
            go_roundw
            case rel => exact ⟨j + 1, by omega, by go_num, ⟨by rw [HST.out]; exact HD2.out⟩⟩
            case measure => simp [intOf]; omega
          · rw [if_neg hm] at d1
            have HST := Lib.hid (show covS s M (j + 1) = covS s M j ++ [(s.b, s.o + j)] by rw [hst]; unfold mark; rw [if_neg hm])
            have HX := Aside0.mk (HD2.out.put HP.out.1 HP.out.2.1 HP.out.2.2.1 HP.out.2.2.2.1 HP.out.2.2.2.2 s HMEM.out j (by rw [HSN2.out]; exact hlt2) hm)
            clear hst hm
            generalize (covS s M j).length = m at *
            have hne2 : s.b ≠ pn := hne.symm
            go_wp2
            go_roundw
            case rel => exact ⟨j + 1, by omega, by go_num, ⟨by rw [HST.out]; exact HX.out⟩⟩
            case measure => simp [intOf]; omega
        · have hjn : j = sn := by omega
          have HE := Aside0.mk (show CMid w wr l (some ⟨g, o, none⟩) g o c pb pn (covA l (k + 1)) by rw [HNX.out, HSN2.out, ← hjn]; exact HD2.out)
          clear hjn
          go_wp2
          go_roundw
          case rel => exact ⟨k + 1, by omega, by go_num, HE⟩
          case measure => simp [intOf]; omega
    · have hkn : k = n := by omega
      have HE := Aside0.mk HD.out
      rw [hkn] at HE
      clear hkn
      go_wp2
      go_end0
      exact ⟨rfl, HE.out⟩

end Go.Proofs.Ytghdeoeajbnfkaa.WSl
