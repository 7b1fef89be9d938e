/- Pieces and the reference's PiecesOf give the same list and the same error, for all whole numbers. No condition. -/
import Derived.Test.YtancgipidbojkaaPRoomPiecesx1
namespace Go.Proofs.Ytancgipidbojkaa.Pure
open Go.RowKit Go.Proofs.Ytancgipidbojkaa.PRoomPieces Go.Proofs.YtancgipidbojkaaW.PrintWords Go.Proofs.YtancgipidbojkaaW.PrintLast

theorem rp_wrap_in (i : Int) (h0 : -9223372036854775808 ≤ i) (h1 : i ≤ 9223372036854775807) : wrap64 i = i := by
  unfold wrap64
  omega

theorem rp_pieces_of (k : Nat) : (∀ a b c, cornref1_PiecesOf.j0 k a b c = room_Pieces.j0 k a b c) ∧
    (∀ a b c d e, cornref1_PiecesOf.l0 k a b c d e = room_Pieces.l0 k a b c d e) := by
  induction k with
  | zero => exact ⟨fun _ _ _ => rfl, fun _ _ _ _ _ => rfl⟩
  | succ k ih =>
    refine ⟨fun a b c => ?_, fun a b c d e => ?_⟩
    · simp only [cornref1_PiecesOf.j0, room_Pieces.j0, ih.2]
    · simp only [cornref1_PiecesOf.l0, room_Pieces.l0, ih.2]

theorem rp_same (k : Nat) (a b : Int) : cornref1_PiecesOf.f k a b = room_Pieces.f k a b := by
  unfold cornref1_PiecesOf.f room_Pieces.f cornref1_inRoom.f room_within.f
  simp only [(rp_pieces_of k).1]
  by_cases h0 : a ≥ 0
  · rw [if_pos h0]
    simp only [Option.bind_some]
    by_cases h1 : a ≤ 100000
    · simp only [decide_eq_true h1, if_true]
      by_cases h2 : b < 1
      · rw [if_pos h2, if_neg (by omega : ¬ b ≥ 1)]
        rfl
      · rw [if_neg h2, if_pos (by omega : b ≥ 1)]
        simp only [Option.bind_some]
        congr 1
        by_cases h3 : b ≤ 100000
        · simp [h3]
        · simp [h3]; omega
    · simp only [decide_eq_false h1]
      simp
  · rw [if_neg h0]
    simp

theorem rp_equal (l : List Int) (hl : l.length ≤ 200000) (d : Nat) : ∀ (k : Nat) (i : Int), 0 ≤ i → i ≤ l.length → (l.length : Int) - i = d → d < k →
    slices_Equal_int_int.l0 k l l (l.length : Int) i = some true := by
  induction d with
  | zero =>
    intro k i h0 h1 hd hk
    obtain ⟨k, rfl⟩ : ∃ m, k = m + 1 := ⟨k - 1, by omega⟩
    simp only [slices_Equal_int_int.l0]
    rw [if_neg (by omega)]
  | succ d ih =>
    intro k i h0 h1 hd hk
    obtain ⟨k, rfl⟩ : ∃ m, k = m + 1 := ⟨k - 1, by omega⟩
    simp only [slices_Equal_int_int.l0]
    rw [if_pos (by omega), if_pos h0, if_pos (by omega), if_pos (by omega), if_pos trivial, rp_wrap_in _ (by omega) (by omega)]
    exact ih k (i + 1) (by omega) (by omega) (by omega) (by omega)

theorem rp_equal_f (l : List Int) (hl : l.length ≤ 200000) : slices_Equal_int_int.f (l.length + 1) l l = some true := by
  unfold slices_Equal_int_int.f
  rw [if_pos rfl]
  exact rp_equal l hl l.length _ 0 (by omega) (by omega) (by omega) (by omega)

theorem rp_loop (n m : Int) (hm : m ≤ 100000) (d : Nat) : ∀ (k : Nat) (l : List Int) (i : Int), 0 ≤ i → i ≤ m → m - i = d → l.length ≤ i → d < k →
    ∃ r, room_Pieces.l0 k n m l m i = some (r, 0) ∧ r.length ≤ 100000 := by
  induction d with
  | zero =>
    intro k l i h0 h1 hd hl hk
    obtain ⟨k, rfl⟩ : ∃ m, k = m + 1 := ⟨k - 1, by omega⟩
    refine ⟨l, ?_, by omega⟩
    simp only [room_Pieces.l0]
    rw [if_neg (by omega)]
  | succ d ih =>
    intro k l i h0 h1 hd hl hk
    obtain ⟨k, rfl⟩ : ∃ m, k = m + 1 := ⟨k - 1, by omega⟩
    simp only [room_Pieces.l0]
    rw [if_pos (by omega), if_neg (by omega), if_pos (by omega : l.length < 17592186044416), if_pos (by omega : l.length < 17592186044416), rp_wrap_in (i + 1) (by omega) (by omega)]
    split
    · exact ih k _ (i + 1) (by omega) (by omega) (by omega) (by simp; omega) (by omega)
    · exact ih k _ (i + 1) (by omega) (by omega) (by omega) (by simp; omega) (by omega)

theorem rp_f (a b : Int) : ∃ K r e, (∀ k, K ≤ k → room_Pieces.f k a b = some (r, e)) ∧ r.length ≤ 100000 := by
  have hb : ∀ k, LeO (room_Pieces.f k a b) (room_Pieces.f (k + 1) a b) := room_Pieces.mono a b
  suffices h : ∃ K r e, room_Pieces.f K a b = some (r, e) ∧ r.length ≤ 100000 by
    obtain ⟨K, r, e, h, hr⟩ := h
    exact ⟨K, r, e, fun k hk => at_rounds hb hk h, hr⟩
  by_cases h0 : 0 ≤ a ∧ a ≤ 100000
  · by_cases h1 : 1 ≤ b ∧ b ≤ 100000
    · have hd : Int.tdiv (a + b - 1) b = (a + b - 1) / b := Int.tdiv_eq_ediv_of_nonneg (by omega)
      have hq0 : 0 ≤ (a + b - 1) / b := Int.ediv_nonneg (by omega) (by omega)
      have hq1 : (a + b - 1) / b ≤ 100000 := by
        have hlt : (a + b - 1) / b < 100001 := (Int.ediv_lt_iff_lt_mul (by omega)).2 (by
          have : 100001 * b = 100000 * b + b := by omega
          omega)
        omega
      obtain ⟨r, hr, hl⟩ := rp_loop a ((a + b - 1) / b) hq1 ((a + b - 1) / b).toNat (100001) [] 0 (by omega) hq0 (by omega) (by simp) (by omega)
      refine ⟨100002, r, 0, ?_, hl⟩
      unfold room_Pieces.f room_within.f
      rw [if_pos h0.1, if_pos h1.1]
      simp only [Option.bind_some, decide_eq_true h0.2, decide_eq_true h1.2, if_true]
      show room_Pieces.j0 (100001 + 1) a b (!true) = _
      simp only [room_Pieces.j0]
      rw [if_neg (by simp), if_neg (by omega), rp_wrap_in (a + b) (by omega) (by omega), rp_wrap_in (a + b - 1) (by omega) (by omega), hd, rp_wrap_in _ (by omega) (by omega)]
      exact hr
    · refine ⟨1, [], 2, ?_, by simp⟩
      unfold room_Pieces.f room_within.f
      rw [if_pos h0.1]
      simp only [Option.bind_some, decide_eq_true h0.2, if_true]
      by_cases h2 : b ≥ 1
      · rw [if_pos h2]
        have : decide (b ≤ 100000) = false := decide_eq_false (by omega)
        simp [this, room_Pieces.j0]
      · rw [if_neg h2]
        simp [room_Pieces.j0]
  · refine ⟨1, [], 2, ?_, by simp⟩
    unfold room_Pieces.f room_within.f
    by_cases h2 : a ≥ 0
    · rw [if_pos h2]
      have : decide (a ≤ 100000) = false := decide_eq_false (by omega)
      simp [this, room_Pieces.j0]
    · rw [if_neg h2]
      simp [room_Pieces.j0]

theorem RoomPieces : cornlaw1_RoomPieces.Pure := by
  intro a b _ _
  obtain ⟨K, r, e, h, hl⟩ := rp_f a b
  refine ⟨K + r.length + 1, ?_⟩
  unfold cornlaw1_RoomPieces.f
  rw [rp_same, h _ (by omega)]
  simp only [Option.bind_some, if_true]
  rw [at_rounds (slices_Equal_int_int.mono r r) (by omega : r.length + 1 ≤ K + r.length + 1) (rp_equal_f r (by omega))]
  rfl

end Go.Proofs.Ytancgipidbojkaa.Pure
