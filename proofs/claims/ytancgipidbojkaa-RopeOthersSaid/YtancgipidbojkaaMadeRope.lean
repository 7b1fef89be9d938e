/- The statement on NewRope: what it returns is what is specified, for all arguments. -/
import Derived.Test.YtancgipidbojkaaMadeMove
namespace Go.Proofs.Ytancgipidbojkaa.Made
open Go.RowKit Go.Proofs.YtancgipidbojkaaW.PrintWords Go.Proofs.YtancgipidbojkaaW.PrintLast Go.Proofs.YtancgipidbojkaaW.PrintMore Go.Proofs.Ytancgipidbojkaa.Book Go.Proofs.Ytancgipidbojkaa.Policy

set_option maxRecDepth 100000 in
theorem withinRope (a lo hi : Int) (w : World) : Calls Try.prog 67 #[.int .i64 a, .int .i64 lo, .int .i64 hi] w fun e w' => e = .returned (.bool (decide (lo ≤ a ∧ a ≤ hi))) ∧ w = w' := by
  by_cases h1 : lo ≤ a
  · by_cases h2 : a ≤ hi
    · go_enter Try.func67, Try.ntmps67
      go_wp2
      go_ret
      exact ⟨by simp [h1, h2], rfl⟩
    · go_enter Try.func67, Try.ntmps67
      go_wp2
      go_ret
      exact ⟨by simp [h2], rfl⟩
  · have h1 : a < lo := by omega
    go_enter Try.func67, Try.ntmps67
    go_wp2
    go_ret
    exact ⟨by simp; omega, rfl⟩

/-- The error of a rope's arguments. -/
def ropeErr (f leaf m h : Int) : Int := if f ≠ 0 then f else if ¬ (1 ≤ leaf ∧ leaf ≤ 4096) then 2 else if leaf > m then 12 else h

set_option maxHeartbeats 2000000 in
set_option maxRecDepth 100000 in
theorem newRope {p : Nat} {b : BookS} {q : Parts} {w : World} (hB : BookAt w p b q) (owner k s m leaf : Int) :
    Calls Try.prog 36 #[.pointer (some ⟨p, 0, none⟩), .int .i64 owner, .agg #[.int .i64 k, .int .i64 s, .int .i64 m], .int .i64 leaf] w fun e w' =>
      Answer (ropeErr (fault k s m) leaf m (heldS b owner).2) e ∧ Below w.heap.size w w' := by
  have HB := Aside0.mk hB
  clear hB
  have hbox : (w.alloc (.cells #[.int .i64 k, .int .i64 s, .int .i64 m] 48)).heap[w.heap.size]? = some (.cells #[.int .i64 k, .int .i64 s, .int .i64 m] 48) := blk_new w _
  have HX := Aside0.mk hbox
  clear hbox
  unfold ropeErr
  by_cases hf : fault k s m = 0
  · rw [if_neg (by omega)]
    by_cases hl : 1 ≤ leaf ∧ leaf ≤ 4096
    · rw [if_neg (by omega)]
      have hd : decide (1 ≤ leaf ∧ leaf ≤ 4096) = true := decide_eq_true hl
      by_cases hm : leaf > m
      · rw [if_pos hm]
        have hm' : decide (m < leaf) = true := decide_eq_true hm
        go_enter Try.func36, Try.ntmps36
        go_wp2_with (first | (go_at_call 65; refine (checkPolicy _ _ _ _).mono ?_; rintro e w1 ⟨rfl, h1⟩; rw [hf]; obtain ⟨_, hb0, hb1, hb2⟩ := boxed h1 HX.out; have H1 := Aside0.mk h1; clear h1) | (go_at_call 67; refine (withinRope _ _ _ _).mono ?_; rintro e w' ⟨rfl, rfl⟩))
        go_ret2
        exact ⟨.inl ⟨by decide, rfl⟩, below_then (below_alloc (Below.refl _ _) _) (by simp) H1.out⟩
      · rw [if_neg hm]
        have hm' : leaf ≤ m := by omega
        by_cases hh : (heldS b owner).2 = 0
        · have hne : ((heldS b owner).2 != 0) = false := by simp [hh]
          rw [hh]
          go_enter Try.func36, Try.ntmps36
          go_wp2_with (first | (go_at_call 65; refine (checkPolicy _ _ _ _).mono ?_; rintro e w1 ⟨rfl, h1⟩; rw [hf]; obtain ⟨_, hb0, hb1, hb2⟩ := boxed h1 HX.out; have H1 := Aside0.mk h1; clear h1) | (go_at_call 67; refine (withinRope _ _ _ _).mono ?_; rintro e w' ⟨rfl, rfl⟩) | (go_at_call 66; refine (held (HB.out.frame (fun k hk => by rw [H1.out.block k (by rw [alloc_size]; have := HB.out.lt hk; omega), Below.heap_alloc _ _ k (HB.out.lt hk)])) owner).mono ?_; rintro e w2 ⟨rfl, rfl⟩))
          go_ret2
          exact ⟨.inr ⟨rfl, _, rfl⟩, below_alloc (below_then (below_alloc (Below.refl _ _) _) (by simp) H1.out) _⟩
        · have hne : ((heldS b owner).2 != 0) = true := bne_iff_ne.2 hh
          go_enter Try.func36, Try.ntmps36
          go_wp2_with (first | (go_at_call 65; refine (checkPolicy _ _ _ _).mono ?_; rintro e w1 ⟨rfl, h1⟩; rw [hf]; obtain ⟨_, hb0, hb1, hb2⟩ := boxed h1 HX.out; have H1 := Aside0.mk h1; clear h1) | (go_at_call 67; refine (withinRope _ _ _ _).mono ?_; rintro e w' ⟨rfl, rfl⟩) | (go_at_call 66; refine (held (HB.out.frame (fun k hk => by rw [H1.out.block k (by rw [alloc_size]; have := HB.out.lt hk; omega), Below.heap_alloc _ _ k (HB.out.lt hk)])) owner).mono ?_; rintro e w2 ⟨rfl, rfl⟩))
          go_ret2
          exact ⟨.inl ⟨hh, rfl⟩, below_then (below_alloc (Below.refl _ _) _) (by simp) H1.out⟩
    · rw [if_pos hl]
      have hd : decide (1 ≤ leaf ∧ leaf ≤ 4096) = false := decide_eq_false hl
      go_enter Try.func36, Try.ntmps36
      go_wp2_with (first | (go_at_call 65; refine (checkPolicy _ _ _ _).mono ?_; rintro e w1 ⟨rfl, h1⟩; rw [hf]; obtain ⟨_, hb0, hb1, hb2⟩ := boxed h1 HX.out; have H1 := Aside0.mk h1; clear h1) | (go_at_call 67; refine (withinRope _ _ _ _).mono ?_; rintro e w' ⟨rfl, rfl⟩))
      go_ret2
      exact ⟨.inl ⟨by decide, rfl⟩, below_then (below_alloc (Below.refl _ _) _) (by simp) H1.out⟩
  · rw [if_pos hf]
    have hne : (fault k s m != 0) = true := bne_iff_ne.2 hf
    go_enter Try.func36, Try.ntmps36
    go_wp2_with (first | (go_at_call 65; refine (checkPolicy _ _ _ _).mono ?_; rintro e w1 ⟨rfl, h1⟩; obtain ⟨_, hb0, hb1, hb2⟩ := boxed h1 HX.out; have H1 := Aside0.mk h1; clear h1))
    go_ret2
    exact ⟨.inl ⟨hf, rfl⟩, below_then (below_alloc (Below.refl _ _) _) (by simp) H1.out⟩

set_option maxHeartbeats 4000000 in
set_option maxRecDepth 100000 in
theorem ropeMade (owner k s m leaf : Int) (w : World) (_ : (Lit.int .i64 owner).wf = true) (_ : (Lit.int .i64 k).wf = true) (_ : (Lit.int .i64 s).wf = true) (_ : (Lit.int .i64 m).wf = true) (_ : (Lit.int .i64 leaf).wf = true) :
    Calls Try.prog 9 #[.int .i64 owner, .agg #[.int .i64 k, .int .i64 s, .int .i64 m], .int .i64 leaf] w fun e w' => e = .returned (.bool true) ∧ Below w.heap.size w w' := by
  have HX := Aside0.mk (show (w.alloc (.cells #[.int .i64 k, .int .i64 s, .int .i64 m] 48)).heap[w.heap.size]? = some (.cells #[.int .i64 k, .int .i64 s, .int .i64 m] 48) from blk_new w _)
  have HW := Aside0.mk (show Below w.heap.size w (w.alloc (.cells #[.int .i64 k, .int .i64 s, .int .i64 m] 48)) from below_alloc (Below.refl _ _) _)
  have HH := Aside0.mk (held_one 100 owner)
  by_cases hf : fault k s m = 0
  · by_cases hl1 : leaf < 1
    · have hl1' : decide (leaf < 1) = true := decide_eq_true hl1
      go_enter Try.func9, Try.ntmps9
      go_wp2_with (first | (go_at_call 32; refine (book 100 (by decide) (by decide) _).mono ?_; rintro e w1 ⟨rfl, q, hB, hb, _⟩; obtain ⟨hx1, hb0, hb1, hb2⟩ := boxed hb HX.out; have HX1 := Aside0.mk hx1; rw [alloc_size] at hB; have HB1 := Aside0.mk hB; have Hb1 := Aside0.mk (below_then HW.out HW.out.size hb); clear hB hb hx1) | (go_at_call 33; refine (policyError _ _ _ _).mono ?_; rintro e w2 ⟨rfl, hb⟩; rw [hf]; obtain ⟨hx1, hb0, hb1, hb2⟩ := boxed hb HX1.out; have HB2 := Aside0.mk (frame_below HB1.out hb); have Hb2 := Aside0.mk (below_then Hb1.out Hb1.out.size hb); clear hb hx1) | (go_at_call 36; refine (newRope HB2.out _ _ _ _ _).mono ?_; rw [show ropeErr (fault k s m) leaf m (heldS (oneBook 100) owner).2 = 2 from by unfold ropeErr; rw [if_neg (by omega), if_pos (by omega)]]; rintro e w3 ⟨ha, hb⟩; obtain rfl := ha.no (by decide); have Hb3 := Aside0.mk (below_then Hb2.out Hb2.out.size hb); clear hb))
      go_ret
      exact ⟨rfl, Hb3.out⟩
    have hl1' : 1 ≤ leaf := by omega
    by_cases hl2 : 4096 < leaf
    · have hl2' : decide (4096 < leaf) = true := decide_eq_true hl2
      go_enter Try.func9, Try.ntmps9
      go_wp2_with (first | (go_at_call 32; refine (book 100 (by decide) (by decide) _).mono ?_; rintro e w1 ⟨rfl, q, hB, hb, _⟩; obtain ⟨hx1, hb0, hb1, hb2⟩ := boxed hb HX.out; have HX1 := Aside0.mk hx1; rw [alloc_size] at hB; have HB1 := Aside0.mk hB; have Hb1 := Aside0.mk (below_then HW.out HW.out.size hb); clear hB hb hx1) | (go_at_call 33; refine (policyError _ _ _ _).mono ?_; rintro e w2 ⟨rfl, hb⟩; rw [hf]; obtain ⟨hx1, hb0, hb1, hb2⟩ := boxed hb HX1.out; have HB2 := Aside0.mk (frame_below HB1.out hb); have Hb2 := Aside0.mk (below_then Hb1.out Hb1.out.size hb); clear hb hx1) | (go_at_call 36; refine (newRope HB2.out _ _ _ _ _).mono ?_; rw [show ropeErr (fault k s m) leaf m (heldS (oneBook 100) owner).2 = 2 from by unfold ropeErr; rw [if_neg (by omega), if_pos (by omega)]]; rintro e w3 ⟨ha, hb⟩; obtain rfl := ha.no (by decide); have Hb3 := Aside0.mk (below_then Hb2.out Hb2.out.size hb); clear hb))
      go_ret
      exact ⟨rfl, Hb3.out⟩
    have hl2' : leaf ≤ 4096 := by omega
    by_cases hm : m < leaf
    · have hm' : decide (m < leaf) = true := decide_eq_true hm
      go_enter Try.func9, Try.ntmps9
      go_wp2_with (first | (go_at_call 32; refine (book 100 (by decide) (by decide) _).mono ?_; rintro e w1 ⟨rfl, q, hB, hb, _⟩; obtain ⟨hx1, hb0, hb1, hb2⟩ := boxed hb HX.out; have HX1 := Aside0.mk hx1; rw [alloc_size] at hB; have HB1 := Aside0.mk hB; have Hb1 := Aside0.mk (below_then HW.out HW.out.size hb); clear hB hb hx1) | (go_at_call 33; refine (policyError _ _ _ _).mono ?_; rintro e w2 ⟨rfl, hb⟩; rw [hf]; obtain ⟨hx1, hb0, hb1, hb2⟩ := boxed hb HX1.out; have HB2 := Aside0.mk (frame_below HB1.out hb); have Hb2 := Aside0.mk (below_then Hb1.out Hb1.out.size hb); clear hb hx1) | (go_at_call 36; refine (newRope HB2.out _ _ _ _ _).mono ?_; rw [show ropeErr (fault k s m) leaf m (heldS (oneBook 100) owner).2 = 12 from by unfold ropeErr; rw [if_neg (by omega), if_neg (by omega), if_pos (by omega)]]; rintro e w3 ⟨ha, hb⟩; obtain rfl := ha.no (by decide); have Hb3 := Aside0.mk (below_then Hb2.out Hb2.out.size hb); clear hb))
      go_ret
      exact ⟨rfl, Hb3.out⟩
    have hm' : leaf ≤ m := by omega
    by_cases ho : owner = 1
    · subst ho
      go_enter Try.func9, Try.ntmps9
      go_wp2_with (first | (go_at_call 32; refine (book 100 (by decide) (by decide) _).mono ?_; rintro e w1 ⟨rfl, q, hB, hb, _⟩; obtain ⟨hx1, hb0, hb1, hb2⟩ := boxed hb HX.out; have HX1 := Aside0.mk hx1; rw [alloc_size] at hB; have HB1 := Aside0.mk hB; have Hb1 := Aside0.mk (below_then HW.out HW.out.size hb); clear hB hb hx1) | (go_at_call 33; refine (policyError _ _ _ _).mono ?_; rintro e w2 ⟨rfl, hb⟩; rw [hf]; obtain ⟨hx1, hb0, hb1, hb2⟩ := boxed hb HX1.out; have HB2 := Aside0.mk (frame_below HB1.out hb); have Hb2 := Aside0.mk (below_then Hb1.out Hb1.out.size hb); clear hb hx1) | (go_at_call 36; refine (newRope HB2.out _ _ _ _ _).mono ?_; rw [show ropeErr (fault k s m) leaf m (heldS (oneBook 100) 1).2 = 0 from by unfold ropeErr; rw [if_neg (by omega), if_neg (by omega), if_neg (by omega), HH.out]; simp]; rintro e w3 ⟨ha, hb⟩; obtain ⟨a, rfl⟩ := ha.ok rfl; have Hb3 := Aside0.mk (below_then Hb2.out Hb2.out.size hb); clear hb))
      go_ret
      exact ⟨rfl, Hb3.out⟩
    · have hno : (owner != 1) = true := bne_iff_ne.2 ho
      have hsn : strangerS owner ≠ 0 := by unfold strangerS; split <;> omega
      have hsb : (strangerS owner != 0) = true := bne_iff_ne.2 hsn
      go_enter Try.func9, Try.ntmps9
      go_wp2_with (first | (go_at_call 32; refine (book 100 (by decide) (by decide) _).mono ?_; rintro e w1 ⟨rfl, q, hB, hb, _⟩; obtain ⟨hx1, hb0, hb1, hb2⟩ := boxed hb HX.out; have HX1 := Aside0.mk hx1; rw [alloc_size] at hB; have HB1 := Aside0.mk hB; have Hb1 := Aside0.mk (below_then HW.out HW.out.size hb); clear hB hb hx1) | (go_at_call 33; refine (policyError _ _ _ _).mono ?_; rintro e w2 ⟨rfl, hb⟩; rw [hf]; obtain ⟨hx1, hb0, hb1, hb2⟩ := boxed hb HX1.out; have HB2 := Aside0.mk (frame_below HB1.out hb); have Hb2 := Aside0.mk (below_then Hb1.out Hb1.out.size hb); clear hb hx1) | (go_at_call 34; refine (stranger _ _).mono ?_; rintro e w' ⟨rfl, rfl⟩) | (go_at_call 36; refine (newRope HB2.out _ _ _ _ _).mono ?_; rw [show ropeErr (fault k s m) leaf m (heldS (oneBook 100) owner).2 = strangerS owner from by unfold ropeErr; rw [if_neg (by omega), if_neg (by omega), if_neg (by omega), HH.out, if_neg ho]]; rintro e w3 ⟨ha, hb⟩; obtain rfl := ha.no hsn; have Hb3 := Aside0.mk (below_then Hb2.out Hb2.out.size hb); clear hb))
      go_ret
      exact ⟨rfl, Hb3.out⟩
  · have hfb : (fault k s m == 0) = false := beq_eq_false_iff_ne.2 hf
    have hfb2 : (fault k s m != 0) = true := bne_iff_ne.2 hf
    go_enter Try.func9, Try.ntmps9
    go_wp2_with (first | (go_at_call 32; refine (book 100 (by decide) (by decide) _).mono ?_; rintro e w1 ⟨rfl, q, hB, hb, _⟩; obtain ⟨hx1, hb0, hb1, hb2⟩ := boxed hb HX.out; have HX1 := Aside0.mk hx1; rw [alloc_size] at hB; have HB1 := Aside0.mk hB; have Hb1 := Aside0.mk (below_then HW.out HW.out.size hb); clear hB hb hx1) | (go_at_call 33; refine (policyError _ _ _ _).mono ?_; rintro e w2 ⟨rfl, hb⟩; obtain ⟨hx1, hb0, hb1, hb2⟩ := boxed hb HX1.out; have HB2 := Aside0.mk (frame_below HB1.out hb); have Hb2 := Aside0.mk (below_then Hb1.out Hb1.out.size hb); clear hb hx1) | (go_at_call 36; refine (newRope HB2.out _ _ _ _ _).mono ?_; rw [show ropeErr (fault k s m) leaf m (heldS (oneBook 100) owner).2 = fault k s m from by unfold ropeErr; rw [if_pos hf]]; rintro e w3 ⟨ha, hb⟩; obtain rfl := ha.no hf; have Hb3 := Aside0.mk (below_then Hb2.out Hb2.out.size hb); clear hb))
    go_ret
    exact ⟨rfl, Hb3.out⟩
end Go.Proofs.Ytancgipidbojkaa.Made
