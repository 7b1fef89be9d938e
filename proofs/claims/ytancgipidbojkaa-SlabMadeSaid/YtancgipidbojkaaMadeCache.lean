/- The statement on CheckClasses and NewCache: what they return is what is specified, for all owners, classes and slots. -/
import Derived.Test.YtancgipidbojkaaMadeSlab
namespace Go.Proofs.Ytancgipidbojkaa.Made
open Go.RowKit Go.Proofs.YtancgipidbojkaaW.PrintWords Go.Proofs.YtancgipidbojkaaW.PrintLast Go.Proofs.YtancgipidbojkaaW.PrintMore Go.Proofs.Ytancgipidbojkaa.Book Go.Proofs.Ytancgipidbojkaa.Policy

/-- The error of a cache's arguments. -/
def cacheErr (c slots h : Int) : Int := if c ≠ 0 then c else if ¬ (1 ≤ slots ∧ slots ≤ 64) then 2 else h
theorem clsErr_len {xs : List Int} (h : clsErr xs = 0) : xs.length ≤ 20 := by
  unfold clsErr at h
  split at h
  · omega
  · omega

set_option maxHeartbeats 2000000 in
set_option maxRecDepth 100000 in
theorem newCache {p : Nat} {b : BookS} {q : Parts} {w : World} (hB : BookAt w p b q) (owner slots : Int) (A : Option Addr) (n c : Nat) (xs : List Int) (hr : ReadsInt w .i64 A n xs) :
    Calls Try.prog 39 #[.pointer (some ⟨p, 0, none⟩), .int .i64 owner, .slice A n c, .int .i64 slots] w fun e w' =>
      Answer (cacheErr (clsErr xs) slots (heldS b owner).2) e ∧ Below w.heap.size w w' := by
  have HB := Aside0.mk hB
  have HR := Aside0.mk hr
  clear hB
  unfold cacheErr
  by_cases hf : clsErr xs = 0
  · have hn : n ≤ 20 := by have := clsErr_len hf; have := hr.1; omega
    have HF := Lib.hid hf
    rw [if_neg (by omega)]
    clear hr hf
    by_cases hl : 1 ≤ slots ∧ slots ≤ 64
    · rw [if_neg (by omega)]
      have hd : decide (1 ≤ slots ∧ slots ≤ 64) = true := decide_eq_true hl
      by_cases hh : (heldS b owner).2 = 0
      · have hne : ((heldS b owner).2 != 0) = false := by simp [hh]
        rw [hh]
        go_enter Try.func39, Try.ntmps39
        go_wp2_with (first | (go_at_call 38; refine (checkClasses _ _ _ xs _ HR.out).mono ?_; rintro e w' ⟨rfl, rfl⟩; rw [HF.out]) | (go_at_call 68; refine (withinSlab _ _ _ _).mono ?_; rintro e w' ⟨rfl, rfl⟩) | (go_at_call 66; refine (held HB.out owner).mono ?_; rintro e w2 ⟨rfl, rfl⟩) | (go_at_call 62; refine (clone _ _ _ xs _ HR.out (by omega)).mono ?_; rintro e w3 ⟨v, rfl, hv, hb⟩; obtain ⟨A3, c3, rfl⟩ := Kd.R_slice hv; have HC := Aside0.mk hb; clear hv hb))
        go_ret2
        exact ⟨.inr ⟨rfl, _, rfl⟩, below_alloc HC.out _⟩
      · have hne : ((heldS b owner).2 != 0) = true := bne_iff_ne.2 hh
        go_enter Try.func39, Try.ntmps39
        go_wp2_with (first | (go_at_call 38; refine (checkClasses _ _ _ xs _ HR.out).mono ?_; rintro e w' ⟨rfl, rfl⟩; rw [HF.out]) | (go_at_call 68; refine (withinSlab _ _ _ _).mono ?_; rintro e w' ⟨rfl, rfl⟩) | (go_at_call 66; refine (held HB.out owner).mono ?_; rintro e w2 ⟨rfl, rfl⟩))
        go_ret2
        exact ⟨.inl ⟨hh, rfl⟩, Below.refl _ _⟩
    · rw [if_pos hl]
      have hd : decide (1 ≤ slots ∧ slots ≤ 64) = false := decide_eq_false hl
      go_enter Try.func39, Try.ntmps39
      go_wp2_with (first | (go_at_call 38; refine (checkClasses _ _ _ xs _ HR.out).mono ?_; rintro e w' ⟨rfl, rfl⟩; rw [HF.out]) | (go_at_call 68; refine (withinSlab _ _ _ _).mono ?_; rintro e w' ⟨rfl, rfl⟩))
      go_ret2
      exact ⟨.inl ⟨by decide, rfl⟩, Below.refl _ _⟩
  · rw [if_pos hf]
    have hne : (clsErr xs != 0) = true := bne_iff_ne.2 hf
    clear hr
    go_enter Try.func39, Try.ntmps39
    go_wp2_with (first | (go_at_call 38; refine (checkClasses _ _ _ xs _ HR.out).mono ?_; rintro e w' ⟨rfl, rfl⟩))
    go_ret2
    exact ⟨.inl ⟨hf, rfl⟩, Below.refl _ _⟩

def IsRow (k : IntKind) (w : World) (a : Option Addr) (len cap : Nat) (zs : List Int) : Prop :=
  (a = none ∧ len = 0 ∧ cap = 0 ∧ zs = []) ∨
  ∃ x, a = some x ∧ len ≤ cap ∧ cap ≤ maxLen ∧ zs.length = cap ∧ (∀ i, i < zs.length → w.cell? (x.add i) = some (.int k (zs.getD i 0))) ∧ ∀ n ∈ zs, (Lit.int k n).wf = true

set_option maxHeartbeats 4000000 in
set_option maxRecDepth 100000 in
theorem slabMade (owner : Int) (a : Option Addr) (len cap : Nat) (zs : List Int) (slots : Int) (w : World) (_ : (Lit.int .i64 owner).wf = true) (hrow : IsRow .i64 w a len cap zs) (_ : len * 8 ≤ 140737488351232) (_ : (Lit.int .i64 slots).wf = true) :
    Calls Try.prog 10 #[.int .i64 owner, .slice a len cap, .int .i64 slots] w fun e w' => e = .returned (.bool true) ∧ Below w.heap.size w w' := by
  obtain ⟨xs, rfl, hr, _, _, hc⟩ := ReadsInt.ofRowC hrow
  have HR := Aside0.mk hr
  have HH := Aside0.mk (held_one 100 owner)
  clear hr hrow
  by_cases hf : clsErr xs = 0
  · have HF := Lib.hid hf
    clear hf
    by_cases hl1 : slots < 1
    · have hl1' : decide (slots < 1) = true := decide_eq_true hl1
      go_enter Try.func10, Try.ntmps10
      go_wp2_with (first | (go_at_call 32; refine (book 100 (by decide) (by decide) _).mono ?_; rintro e w1 ⟨rfl, q, hB, hb, _⟩; have HB1 := Aside0.mk hB; have Hb1 := Aside0.mk hb; have HR1 := Aside0.mk (HR.out.below hb); clear hB hb) | (go_at_call 37; refine (classesError _ _ _ xs _ HR1.out).mono ?_; rintro e w' ⟨rfl, rfl⟩; rw [HF.out]) | (go_at_call 38; refine (checkClasses _ _ _ xs _ HR1.out).mono ?_; rintro e w' ⟨rfl, rfl⟩; rw [HF.out]) | (go_at_call 39; refine (newCache HB1.out _ _ _ _ _ xs HR1.out).mono ?_; rw [show cacheErr (clsErr xs) slots (heldS (oneBook 100) owner).2 = 2 from by unfold cacheErr; rw [if_neg (by rw [HF.out]; decide), if_pos (by omega)]]; rintro e w3 ⟨ha, hb⟩; obtain rfl := ha.no (by decide); have Hb3 := Aside0.mk (below_then Hb1.out Hb1.out.size hb); clear hb))
      go_ret
      exact ⟨rfl, Hb3.out⟩
    have hl1' : 1 ≤ slots := by omega
    by_cases hl2 : 64 < slots
    · have hl2' : decide (64 < slots) = true := decide_eq_true hl2
      go_enter Try.func10, Try.ntmps10
      go_wp2_with (first | (go_at_call 32; refine (book 100 (by decide) (by decide) _).mono ?_; rintro e w1 ⟨rfl, q, hB, hb, _⟩; have HB1 := Aside0.mk hB; have Hb1 := Aside0.mk hb; have HR1 := Aside0.mk (HR.out.below hb); clear hB hb) | (go_at_call 37; refine (classesError _ _ _ xs _ HR1.out).mono ?_; rintro e w' ⟨rfl, rfl⟩; rw [HF.out]) | (go_at_call 38; refine (checkClasses _ _ _ xs _ HR1.out).mono ?_; rintro e w' ⟨rfl, rfl⟩; rw [HF.out]) | (go_at_call 39; refine (newCache HB1.out _ _ _ _ _ xs HR1.out).mono ?_; rw [show cacheErr (clsErr xs) slots (heldS (oneBook 100) owner).2 = 2 from by unfold cacheErr; rw [if_neg (by rw [HF.out]; decide), if_pos (by omega)]]; rintro e w3 ⟨ha, hb⟩; obtain rfl := ha.no (by decide); have Hb3 := Aside0.mk (below_then Hb1.out Hb1.out.size hb); clear hb))
      go_ret
      exact ⟨rfl, Hb3.out⟩
    have hl2' : slots ≤ 64 := by omega
    by_cases ho : owner = 1
    · subst ho
      go_enter Try.func10, Try.ntmps10
      go_wp2_with (first | (go_at_call 32; refine (book 100 (by decide) (by decide) _).mono ?_; rintro e w1 ⟨rfl, q, hB, hb, _⟩; have HB1 := Aside0.mk hB; have Hb1 := Aside0.mk hb; have HR1 := Aside0.mk (HR.out.below hb); clear hB hb) | (go_at_call 37; refine (classesError _ _ _ xs _ HR1.out).mono ?_; rintro e w' ⟨rfl, rfl⟩; rw [HF.out]) | (go_at_call 38; refine (checkClasses _ _ _ xs _ HR1.out).mono ?_; rintro e w' ⟨rfl, rfl⟩; rw [HF.out]) | (go_at_call 39; refine (newCache HB1.out _ _ _ _ _ xs HR1.out).mono ?_; rw [show cacheErr (clsErr xs) slots (heldS (oneBook 100) 1).2 = 0 from by unfold cacheErr; rw [if_neg (by rw [HF.out]; decide), if_neg (by omega), HH.out]; simp]; rintro e w3 ⟨ha, hb⟩; obtain ⟨a, rfl⟩ := ha.ok rfl; have Hb3 := Aside0.mk (below_then Hb1.out Hb1.out.size hb); clear hb))
      go_ret
      exact ⟨rfl, Hb3.out⟩
    · have hno : (owner != 1) = true := bne_iff_ne.2 ho
      have hsn : strangerS owner ≠ 0 := by unfold strangerS; split <;> omega
      have hsb : (strangerS owner != 0) = true := bne_iff_ne.2 hsn
      go_enter Try.func10, Try.ntmps10
      go_wp2_with (first | (go_at_call 32; refine (book 100 (by decide) (by decide) _).mono ?_; rintro e w1 ⟨rfl, q, hB, hb, _⟩; have HB1 := Aside0.mk hB; have Hb1 := Aside0.mk hb; have HR1 := Aside0.mk (HR.out.below hb); clear hB hb) | (go_at_call 37; refine (classesError _ _ _ xs _ HR1.out).mono ?_; rintro e w' ⟨rfl, rfl⟩; rw [HF.out]) | (go_at_call 38; refine (checkClasses _ _ _ xs _ HR1.out).mono ?_; rintro e w' ⟨rfl, rfl⟩; rw [HF.out]) | (go_at_call 34; refine (stranger _ _).mono ?_; rintro e w' ⟨rfl, rfl⟩) | (go_at_call 39; refine (newCache HB1.out _ _ _ _ _ xs HR1.out).mono ?_; rw [show cacheErr (clsErr xs) slots (heldS (oneBook 100) owner).2 = strangerS owner from by unfold cacheErr; rw [if_neg (by rw [HF.out]; decide), if_neg (by omega), HH.out, if_neg ho]]; rintro e w3 ⟨ha, hb⟩; obtain rfl := ha.no hsn; have Hb3 := Aside0.mk (below_then Hb1.out Hb1.out.size hb); clear hb))
      go_ret
      exact ⟨rfl, Hb3.out⟩
  · have hfb : (clsErr xs == 0) = false := beq_eq_false_iff_ne.2 hf
    have hfb2 : (clsErr xs != 0) = true := bne_iff_ne.2 hf
    go_enter Try.func10, Try.ntmps10
    go_wp2_with (first | (go_at_call 32; refine (book 100 (by decide) (by decide) _).mono ?_; rintro e w1 ⟨rfl, q, hB, hb, _⟩; have HB1 := Aside0.mk hB; have Hb1 := Aside0.mk hb; have HR1 := Aside0.mk (HR.out.below hb); clear hB hb) | (go_at_call 37; refine (classesError _ _ _ xs _ HR1.out).mono ?_; rintro e w' ⟨rfl, rfl⟩) | (go_at_call 38; refine (checkClasses _ _ _ xs _ HR1.out).mono ?_; rintro e w' ⟨rfl, rfl⟩) | (go_at_call 39; refine (newCache HB1.out _ _ _ _ _ xs HR1.out).mono ?_; rw [show cacheErr (clsErr xs) slots (heldS (oneBook 100) owner).2 = clsErr xs from by unfold cacheErr; rw [if_pos hf]]; rintro e w3 ⟨ha, hb⟩; obtain rfl := ha.no hf; have Hb3 := Aside0.mk (below_then Hb1.out Hb1.out.size hb); clear hb))
    go_ret
    exact ⟨rfl, Hb3.out⟩
end Go.Proofs.Ytancgipidbojkaa.Made
