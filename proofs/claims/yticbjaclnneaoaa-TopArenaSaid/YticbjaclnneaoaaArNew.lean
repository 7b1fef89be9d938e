/- Arenas: New. -/
import Derived.Test.YticbjaclnneaoaaArPlace
namespace Go.Proofs.Yticbjaclnneaoaa.Arena
set_option linter.unusedVariables false
open Go.RowKit Go.Proofs.YticbjaclnneaoaaW.PrintWords Go.Proofs.YticbjaclnneaoaaW.PrintLast Go.Proofs.YticbjaclnneaoaaW.PrintMore Go.Proofs.Yticbjaclnneaoaa.Book Go.Proofs.Yticbjaclnneaoaa.Oct Go.Proofs.Yticbjaclnneaoaa.Pure
set_option linter.unusedSimpArgs false

/-- An arena that is new. -/
def S0 : ArS := ⟨.slice none 0 0, .slice none 0 0, .slice none 0 0, [], [], [], 0, 0, 0⟩
theorem S0_good : Good S0 where
  regs := fun x hx => by simp [S0] at hx
  few := by simp [S0]
  fewR := by simp [S0]
  fewM := by simp [S0]
  room := by simp [S0, aroom]
  nos := by simp [S0]
  nol := fun x hx => by simp [S0] at hx
  mnos := by simp [S0]
  mnol := fun x hx => by simp [S0] at hx
  many := fun x hx => by simp [S0] at hx
  mono := by simp [S0]
  peak := by simp [S0]
theorem withinA (a lo hi : Int) (w : World) : Calls Try.prog 26 #[.int .i64 a, .int .i64 lo, .int .i64 hi] w fun e w' => e = .returned (.bool (decide (lo ≤ a ∧ a ≤ hi))) ∧ ∃ m, w' = w.drewN m := by
  refine (PTopArena.arena_within.calls a lo hi _ w ?_).mono fun e w' ⟨he, hd⟩ => ⟨he, hd.out⟩
  unfold PTopArena.arena_within.f
  by_cases h1 : lo ≤ a <;> by_cases h2 : a ≤ hi <;> simp [h1, h2]

set_option maxHeartbeats 1000000 in
set_option maxRecDepth 100000 in
theorem newArena {p : Nat} {b : BookS} {q : Parts} {w : World} (hB : BookAt w p b q) (o k s m size : Int) :
    Calls Try.prog 7 #[.pointer (some ⟨p, 0, none⟩), .int .i64 o, .agg #[.int .i64 k, .int .i64 s, .int .i64 m], .int .i64 size] w fun e w' =>
      ((∃ err, err ≠ 0 ∧ e = .returned (.tuple #[.pointer none, .int .i64 err])) ∨ ∃ r, e = .returned (.tuple #[.pointer (some ⟨r, 0, none⟩), .int .i64 0]) ∧ w.heap.size ≤ r ∧ ArenaAt w' r p o k s m size S0 ∧ rgFault k s m = 0 ∧ 1 ≤ size ∧ size ≤ m ∧ size ≤ 100000) ∧ Below w.heap.size w w' := by
  have HB := Aside0.mk hB
  clear hB
  have HX := Aside0.mk (show (w.alloc (.cells #[.int .i64 k, .int .i64 s, .int .i64 m] 23)).heap[w.heap.size]? = some (.cells #[.int .i64 k, .int .i64 s, .int .i64 m] 23) from blk_new w _)
  by_cases hf : rgFault k s m = 0
  · by_cases hin : 1 ≤ size ∧ size ≤ 100000
    · have hdi : decide (1 ≤ size ∧ size ≤ 100000) = true := decide_eq_true hin
      by_cases hfull : m < size
      · have hdf : decide (m < size) = true := decide_eq_true hfull
        go_enter Try.func7, Try.ntmps7
        go_wp2_with (first | (go_at_call 25; refine (checkPolicy _ _ _ _).mono ?_; rintro e w1 ⟨rfl, h1⟩; rw [hf]; obtain ⟨hb0, hb1, hb2⟩ := box_cells (box_later h1); have H1 := Aside0.mk h1; clear h1) | (go_at_call 26; refine (withinA _ _ _ _).mono ?_; rintro e w2 ⟨rfl, m2, rfl⟩; rw [hdi]))
        go_ret2
        exact ⟨.inl ⟨12, by decide, rfl⟩, pw_below_drewN (below_then (below_alloc (Below.refl _ _) _) (by simp) H1.out) _⟩
      · have hdf : decide (m < size) = false := decide_eq_false hfull
        by_cases hh : (heldS b o).2 = 0
        · go_enter Try.func7, Try.ntmps7
          go_wp2_with (first | (go_at_call 25; refine (checkPolicy _ _ _ _).mono ?_; rintro e w1 ⟨rfl, h1⟩; rw [hf]; obtain ⟨hb0, hb1, hb2⟩ := box_cells (box_later h1); have H1 := Aside0.mk h1; clear h1) | (go_at_call 26; refine (withinA _ _ _ _).mono ?_; rintro e w2 ⟨rfl, m2, rfl⟩; rw [hdi]) | (go_at_call 20; refine (held (HB.out.frame (fun k hk => by show w1.heap[k]? = w.heap[k]?; exact (H1.out.block k (by rw [alloc_size]; have := HB.out.lt hk; omega)).trans (Below.heap_alloc _ _ k (HB.out.lt hk)))) o).mono ?_; rintro e w3 ⟨rfl, rfl⟩; rw [hh]))
          go_ret2
          have hsz : w.heap.size ≤ w1.heap.size := by have := H1.out.size; simp at this; omega
          exact ⟨.inr ⟨_, rfl, hsz, ⟨by exact blk_new _ _, own_nil _ _ _ _, own_nil _ _ _ _, own_nil _ _ _ _, fun c hc => by simp [S0] at hc, by simp [S0]⟩, hf, hin.1, by omega, hin.2⟩, below_alloc (pw_below_drewN (below_then (below_alloc (Below.refl _ _) _) (by simp) H1.out) _) _⟩
        · have hne : ((heldS b o).2 != 0) = true := bne_iff_ne.2 hh
          go_enter Try.func7, Try.ntmps7
          go_wp2_with (first | (go_at_call 25; refine (checkPolicy _ _ _ _).mono ?_; rintro e w1 ⟨rfl, h1⟩; rw [hf]; obtain ⟨hb0, hb1, hb2⟩ := box_cells (box_later h1); have H1 := Aside0.mk h1; clear h1) | (go_at_call 26; refine (withinA _ _ _ _).mono ?_; rintro e w2 ⟨rfl, m2, rfl⟩; rw [hdi]) | (go_at_call 20; refine (held (HB.out.frame (fun k hk => by show w1.heap[k]? = w.heap[k]?; exact (H1.out.block k (by rw [alloc_size]; have := HB.out.lt hk; omega)).trans (Below.heap_alloc _ _ k (HB.out.lt hk)))) o).mono ?_; rintro e w3 ⟨rfl, rfl⟩))
          go_ret2
          exact ⟨.inl ⟨_, hh, rfl⟩, pw_below_drewN (below_then (below_alloc (Below.refl _ _) _) (by simp) H1.out) _⟩
    · have hdi : decide (1 ≤ size ∧ size ≤ 100000) = false := decide_eq_false hin
      go_enter Try.func7, Try.ntmps7
      go_wp2_with (first | (go_at_call 25; refine (checkPolicy _ _ _ _).mono ?_; rintro e w1 ⟨rfl, h1⟩; rw [hf]; obtain ⟨hb0, hb1, hb2⟩ := box_cells (box_later h1); have H1 := Aside0.mk h1; clear h1) | (go_at_call 26; refine (withinA _ _ _ _).mono ?_; rintro e w2 ⟨rfl, m2, rfl⟩; rw [hdi]))
      go_ret2
      exact ⟨.inl ⟨2, by decide, rfl⟩, pw_below_drewN (below_then (below_alloc (Below.refl _ _) _) (by simp) H1.out) _⟩
  · have hne : (rgFault k s m != 0) = true := bne_iff_ne.2 hf
    go_enter Try.func7, Try.ntmps7
    go_wp2_with (first | (go_at_call 25; refine (checkPolicy _ _ _ _).mono ?_; rintro e w1 ⟨rfl, h1⟩; have H1 := Aside0.mk h1; clear h1))
    go_ret2
    exact ⟨.inl ⟨_, hf, rfl⟩, below_then (below_alloc (Below.refl _ _) _) (by simp) H1.out⟩
end Go.Proofs.Yticbjaclnneaoaa.Arena
