/- The statement on NewHeap: what it returns is what is specified, for all owners and policies. -/
import Derived.Test.YtancgipidbojkaaMade
namespace Go.Proofs.Ytancgipidbojkaa.Made
open Go.RowKit Go.Proofs.YtancgipidbojkaaW.PrintWords Go.Proofs.YtancgipidbojkaaW.PrintLast Go.Proofs.YtancgipidbojkaaW.PrintMore Go.Proofs.Ytancgipidbojkaa.Book Go.Proofs.Ytancgipidbojkaa.Policy

/-- The error of somebody else's number. -/
def strangerS (owner : Int) : Int := if owner < 1 ∨ owner > 40 then 2 else 7
set_option maxRecDepth 100000 in
theorem stranger (owner : Int) (w : World) : Calls Try.prog 34 #[.int .i64 owner] w fun e w' => e = .returned (.int .i64 (strangerS owner)) ∧ w = w' := by
  by_cases h1 : owner < 1
  · have h : strangerS owner = 2 := by unfold strangerS; rw [if_pos (by omega)]
    rw [h]; clear h
    have h1' : decide (owner < 1) = true := decide_eq_true h1
    go_enter Try.func34, Try.ntmps34
    go_wp2
    go_ret
    exact ⟨rfl, rfl⟩
  have h1' : 1 ≤ owner := by omega
  by_cases h2 : 40 < owner
  · have h : strangerS owner = 2 := by unfold strangerS; rw [if_pos (by omega)]
    rw [h]; clear h
    have h2' : decide (40 < owner) = true := decide_eq_true h2
    go_enter Try.func34, Try.ntmps34
    go_wp2
    go_ret
    exact ⟨rfl, rfl⟩
  have h2' : owner ≤ 40 := by omega
  have h : strangerS owner = 7 := by unfold strangerS; rw [if_neg (by omega)]
  rw [h]; clear h
  go_enter Try.func34, Try.ntmps34
  go_wp2
  go_ret
  exact ⟨rfl, rfl⟩

theorem held_one (limit owner : Int) : (heldS (oneBook limit) owner).2 = if owner = 1 then 0 else strangerS owner := by
  unfold heldS strangerS
  by_cases h : owner = 1
  · subst h; rfl
  · rw [if_neg h]
    by_cases h2 : 1 ≤ owner ∧ owner ≤ 40
    · rw [if_pos h2, if_neg (by omega)]
      have : (oneBook limit).acc owner = none := by
        unfold BookS.acc oneBook
        have : ¬ 1 = owner := fun e => h e.symm
        simp [this]
      rw [this]
    · rw [if_neg h2, if_pos (by omega)]

/-- What a New answers: nil with an error, and something without. -/
def Answer (x : Int) (e : Ending) : Prop := (x ≠ 0 ∧ e = .returned (.tuple #[.pointer none, .int .i64 x])) ∨ (x = 0 ∧ ∃ a : Addr, e = .returned (.tuple #[.pointer (some a), .int .i64 0]))

theorem Answer.no {x : Int} {e : Ending} (h : Answer x e) (hx : x ≠ 0) : e = .returned (.tuple #[.pointer none, .int .i64 x]) := by
  rcases h with ⟨_, h⟩ | ⟨h, _⟩
  · exact h
  · exact absurd h hx
theorem Answer.ok {x : Int} {e : Ending} (h : Answer x e) (hx : x = 0) : ∃ a : Addr, e = .returned (.tuple #[.pointer (some a), .int .i64 0]) := by
  rcases h with ⟨h, _⟩ | ⟨_, h⟩
  · exact absurd hx h
  · exact h

theorem boxed {w w1 : World} {a b c : Value} {t : Nat} (h : Below w.heap.size w w1) {g : Nat} (hb : w.heap[g]? = some (.cells #[a, b, c] t)) : w1.heap[g]? = some (.cells #[a, b, c] t) ∧ w1.cell? ⟨g, 0, none⟩ = some a ∧ w1.cell? ⟨g, 1, none⟩ = some b ∧ w1.cell? ⟨g, 2, none⟩ = some c := by
  have h1 := blk_below hb h
  exact ⟨h1, by rw [blk_cell h1]; rfl, by rw [blk_cell h1]; rfl, by rw [blk_cell h1]; rfl⟩

set_option maxHeartbeats 1000000 in
set_option maxRecDepth 100000 in
theorem newHeap {p : Nat} {b : BookS} {q : Parts} {w : World} (hB : BookAt w p b q) (owner k s m : Int) :
    Calls Try.prog 35 #[.pointer (some ⟨p, 0, none⟩), .int .i64 owner, .agg #[.int .i64 k, .int .i64 s, .int .i64 m]] w fun e w' =>
      Answer (if fault k s m ≠ 0 then fault k s m else (heldS b owner).2) e ∧ Below w.heap.size w w' := by
  have HB := Aside0.mk hB
  clear hB
  by_cases hf : fault k s m = 0
  · rw [if_neg (by omega)]
    have hbox : (w.alloc (.cells #[.int .i64 k, .int .i64 s, .int .i64 m] 48)).heap[w.heap.size]? = some (.cells #[.int .i64 k, .int .i64 s, .int .i64 m] 48) := blk_new w _
    have HX := Aside0.mk hbox
    clear hbox
    by_cases hh : (heldS b owner).2 = 0
    · have hne : ((heldS b owner).2 != 0) = false := by simp [hh]
      rw [hh]
      go_enter Try.func35, Try.ntmps35
      go_wp2_with (first | (go_at_call 65; refine (checkPolicy _ _ _ _).mono ?_; rintro e w1 ⟨rfl, h1⟩; rw [hf]; obtain ⟨_, hb0, hb1, hb2⟩ := boxed h1 HX.out; have H1 := Aside0.mk h1; clear h1) | (go_at_call 66; refine (held (HB.out.frame (fun k hk => by rw [H1.out.block k (by rw [alloc_size]; have := HB.out.lt hk; omega), Below.heap_alloc _ _ k (HB.out.lt hk)])) owner).mono ?_; rintro e w2 ⟨rfl, rfl⟩))
      go_ret2
      exact ⟨.inr ⟨rfl, _, rfl⟩, below_alloc (below_then (below_alloc (Below.refl _ _) _) (by simp) H1.out) _⟩
    · have hne : ((heldS b owner).2 != 0) = true := bne_iff_ne.2 hh
      go_enter Try.func35, Try.ntmps35
      go_wp2_with (first | (go_at_call 65; refine (checkPolicy _ _ _ _).mono ?_; rintro e w1 ⟨rfl, h1⟩; rw [hf]; obtain ⟨_, hb0, hb1, hb2⟩ := boxed h1 HX.out; have H1 := Aside0.mk h1; clear h1) | (go_at_call 66; refine (held (HB.out.frame (fun k hk => by rw [H1.out.block k (by rw [alloc_size]; have := HB.out.lt hk; omega), Below.heap_alloc _ _ k (HB.out.lt hk)])) owner).mono ?_; rintro e w2 ⟨rfl, rfl⟩))
      go_ret2
      exact ⟨.inl ⟨hh, rfl⟩, below_then (below_alloc (Below.refl _ _) _) (by simp) H1.out⟩
  · rw [if_pos hf]
    have hne : (fault k s m != 0) = true := bne_iff_ne.2 hf
    go_enter Try.func35, Try.ntmps35
    go_wp2_with (first | (go_at_call 65; refine (checkPolicy _ _ _ _).mono ?_; rintro e w1 ⟨rfl, h1⟩; have H1 := Aside0.mk h1; clear h1))
    go_ret2
    exact ⟨.inl ⟨hf, rfl⟩, below_then (below_alloc (Below.refl _ _) _) (by simp) H1.out⟩

theorem frame_below {w w1 : World} {p : Nat} {b : BookS} {q : Parts} (h : BookAt w p b q) (hb : Below w.heap.size w w1) : BookAt w1 p b q := h.frame (fun k hk => hb.block k (h.lt hk))

set_option maxHeartbeats 2000000 in
set_option maxRecDepth 100000 in
theorem moveMade (owner k s m : Int) (w : World) (_ : (Lit.int .i64 owner).wf = true) (_ : (Lit.int .i64 k).wf = true) (_ : (Lit.int .i64 s).wf = true) (_ : (Lit.int .i64 m).wf = true) :
    Calls Try.prog 8 #[.int .i64 owner, .agg #[.int .i64 k, .int .i64 s, .int .i64 m]] w fun e w' => e = .returned (.bool true) ∧ Below w.heap.size w w' := by
  have HX := Aside0.mk (show (w.alloc (.cells #[.int .i64 k, .int .i64 s, .int .i64 m] 48)).heap[w.heap.size]? = some (.cells #[.int .i64 k, .int .i64 s, .int .i64 m] 48) from blk_new w _)
  have HW := Aside0.mk (show Below w.heap.size w (w.alloc (.cells #[.int .i64 k, .int .i64 s, .int .i64 m] 48)) from below_alloc (Below.refl _ _) _)
  by_cases hf : fault k s m = 0
  · by_cases ho : owner = 1
    · subst ho
      go_enter Try.func8, Try.ntmps8
      go_wp2_with (first | (go_at_call 32; refine (book 100 (by decide) (by decide) _).mono ?_; rintro e w1 ⟨rfl, q, hB, hb, _⟩; obtain ⟨hx1, hb0, hb1, hb2⟩ := boxed hb HX.out; have HX1 := Aside0.mk hx1; rw [alloc_size] at hB; have HB1 := Aside0.mk hB; have Hb1 := Aside0.mk (below_then HW.out HW.out.size hb); clear hB hb hx1) | (go_at_call 33; refine (policyError _ _ _ _).mono ?_; rintro e w2 ⟨rfl, hb⟩; rw [hf]; obtain ⟨hx1, hb0, hb1, hb2⟩ := boxed hb HX1.out; have HB2 := Aside0.mk (frame_below HB1.out hb); have Hb2 := Aside0.mk (below_then Hb1.out Hb1.out.size hb); clear hb hx1) | (go_at_call 35; refine (newHeap HB2.out _ _ _ _).mono ?_; rw [if_neg (by omega), held_one, if_pos rfl]; rintro e w3 ⟨ha, hb⟩; obtain ⟨a, rfl⟩ := ha.ok rfl; have Hb3 := Aside0.mk (below_then Hb2.out Hb2.out.size hb); clear hb))
      go_ret
      exact ⟨rfl, Hb3.out⟩
    · have hno : (owner != 1) = true := bne_iff_ne.2 ho
      have hsn : strangerS owner ≠ 0 := by unfold strangerS; split <;> omega
      have hsb : (strangerS owner != 0) = true := bne_iff_ne.2 hsn
      go_enter Try.func8, Try.ntmps8
      go_wp2_with (first | (go_at_call 32; refine (book 100 (by decide) (by decide) _).mono ?_; rintro e w1 ⟨rfl, q, hB, hb, _⟩; obtain ⟨hx1, hb0, hb1, hb2⟩ := boxed hb HX.out; have HX1 := Aside0.mk hx1; rw [alloc_size] at hB; have HB1 := Aside0.mk hB; have Hb1 := Aside0.mk (below_then HW.out HW.out.size hb); clear hB hb hx1) | (go_at_call 33; refine (policyError _ _ _ _).mono ?_; rintro e w2 ⟨rfl, hb⟩; rw [hf]; obtain ⟨hx1, hb0, hb1, hb2⟩ := boxed hb HX1.out; have HB2 := Aside0.mk (frame_below HB1.out hb); have Hb2 := Aside0.mk (below_then Hb1.out Hb1.out.size hb); clear hb hx1) | (go_at_call 34; refine (stranger _ _).mono ?_; rintro e w' ⟨rfl, rfl⟩) | (go_at_call 35; refine (newHeap HB2.out _ _ _ _).mono ?_; rw [if_neg (by omega), held_one, if_neg ho]; rintro e w3 ⟨ha, hb⟩; obtain rfl := ha.no hsn; have Hb3 := Aside0.mk (below_then Hb2.out Hb2.out.size hb); clear hb))
      go_ret
      exact ⟨rfl, Hb3.out⟩
  · have hfb : (fault k s m == 0) = false := beq_eq_false_iff_ne.2 hf
    have hfb2 : (fault k s m != 0) = true := bne_iff_ne.2 hf
    go_enter Try.func8, Try.ntmps8
    go_wp2_with (first | (go_at_call 32; refine (book 100 (by decide) (by decide) _).mono ?_; rintro e w1 ⟨rfl, q, hB, hb, _⟩; obtain ⟨hx1, hb0, hb1, hb2⟩ := boxed hb HX.out; have HX1 := Aside0.mk hx1; rw [alloc_size] at hB; have HB1 := Aside0.mk hB; have Hb1 := Aside0.mk (below_then HW.out HW.out.size hb); clear hB hb hx1) | (go_at_call 33; refine (policyError _ _ _ _).mono ?_; rintro e w2 ⟨rfl, hb⟩; obtain ⟨hx1, hb0, hb1, hb2⟩ := boxed hb HX1.out; have HB2 := Aside0.mk (frame_below HB1.out hb); have Hb2 := Aside0.mk (below_then Hb1.out Hb1.out.size hb); clear hb hx1) | (go_at_call 35; refine (newHeap HB2.out _ _ _ _).mono ?_; rw [if_pos hf]; rintro e w3 ⟨ha, hb⟩; obtain rfl := ha.no hf; have Hb3 := Aside0.mk (below_then Hb2.out Hb2.out.size hb); clear hb))
    go_ret
    exact ⟨rfl, Hb3.out⟩
end Go.Proofs.Ytancgipidbojkaa.Made
