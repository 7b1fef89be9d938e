/- RoomMakes: Made and Copied, and the pairs that they make. -/
import Derived.Test.YtancgipidbojkaaCells
import Derived.Laws.CopyOwn
namespace Go.Proofs.Ytancgipidbojkaa.Twin
open Go.RowKit Go.Proofs.YtancgipidbojkaaW.PrintWords Go.Proofs.YtancgipidbojkaaW.PrintLast Go.Proofs.YtancgipidbojkaaW.PrintMore
set_option linter.unusedSimpArgs false

/-- A block of octets. -/
def Row (w : World) (g : Nat) (ys : List Int) : Prop := w.heap[g]? = some (.cells (lits8 ys).toArray 5)

theorem mades (r : Nat) : madeCells (Value.int .u8 0).cells r = (lits8 (List.replicate r 0)).toArray := by
  apply Array.ext
  · rw [size_madeCells]; simp [lits8]
  · intro i h1 h2
    simp [lits8, madeCells, Value.cells, Nat.mod_one]
theorem lits8_length (ys : List Int) : (lits8 ys).length = ys.length := by simp [lits8]
theorem lits8_take_drop (xs : List Int) (r : Nat) : splice (lits8 (List.replicate r 0)) 0 (lits8 xs) = lits8 (xs ++ List.replicate (r - xs.length) 0) := by
  simp [splice, lits8]
theorem reads_cells {w : World} {A : Option Addr} {m : Nat} {xs : List Int} (h : ReadsInt w .u8 A m xs) (h0 : 0 < (lits8 xs).length) : ∃ ad, A = some ad ∧ ∀ j v, (lits8 xs)[j]? = some v → w.cell? (ad.add j) = some v := by
  rw [lits8_length] at h0
  have hl := h.1
  obtain ⟨ad, e, hc⟩ := h.2.2 (by omega)
  refine ⟨ad, e, fun j v hj => ?_⟩
  have hlt : j < xs.length := by
    by_cases hc : j < xs.length
    · exact hc
    · rw [List.getElem?_eq_none (by rw [lits8_length]; omega)] at hj; cases hj
  rw [hc j (by omega), ← hj, lits8_get xs j hlt]
theorem infoU1 : (Try.prog.info? 5).map (·.size) = some 1 := by kernel_rfl
theorem lits8_one (xs : List Int) : ∀ v ∈ lits8 xs, v.oneCell' = true := by
  intro v hv
  simp only [lits8, List.mem_map] at hv
  obtain ⟨x, _, rfl⟩ := hv
  rfl
theorem makeU8 (n r : Nat) (hnr : n ≤ r) (hr : r ≤ 281474976710656) (u : World) : (Instr.makeSlice 28 (.int .i64 n) (.int .i64 r)).run Try.prog u = .ok (.slice (some ⟨u.heap.size, 0, none⟩) n r) (u.alloc (.cells (lits8 (List.replicate r 0)).toArray 5)) := by
  obtain ⟨i0, hi, hz0, hz1, hz2⟩ := info_parts infoU8
  have h := run_make (P := Try.prog) u 28 5 i0 (.int .u8 0) Try.underlying28 hi hz0 .i64 .i64 (n : Int) (r : Int) (by omega) (by omega) (by rw [hz2]; omega) (by omega)
  rw [h, Int.toNat_natCast, Int.toNat_natCast, hz1, Nat.mul_one, mades]

set_option maxHeartbeats 1000000 in
set_option maxRecDepth 100000 in
theorem copied (A : Option Addr) (m c r : Nat) (xs : List Int) (w : World) (hr : ReadsInt w .u8 A m xs) (hmr : m ≤ r) (hrr : r ≤ 281474976710656) :
    Calls Try.prog 53 #[.slice A m c, .int .i64 m, .int .i64 r] w fun e w' => e = .returned (.slice (some ⟨w.heap.size, 0, none⟩) m r) ∧ Row w' w.heap.size (xs ++ List.replicate (r - m) 0) ∧ Below w.heap.size w w' := by
  have hmk := makeU8 m r hmr hrr
  have HR := Aside0.mk hr
  clear hr
  go_enter Try.func53, Try.ntmps53
  go_wp2_with (refine wpList_copy_splice (o := ⟨some 13, _, _, _, _, _⟩) rfl (.tmp 11) (.tmp 12) 28 28 rfl 5 Try.underlying28 infoU1 (some ⟨w.heap.size, 0, none⟩) A m r m c rfl rfl w.heap.size 0 (lits8 (List.replicate r 0)) 5 (blk_new _ _) (lits8 xs) (by rw [lits8_length, HR.out.1]; exact (Nat.min_self m).symm) (fun h0 => ⟨rfl, reads_cells (HR.out.below (below_alloc (Below.refl _ _) _)) h0⟩) (by rw [lits8_length, lits8_length, HR.out.1]; simp; omega) (lits8_one xs) w.heap.size w (below_alloc (Below.refl _ _) _) (Nat.le_refl _) ?_; intro w2 hg2 hb2; have HG := Aside0.mk hg2; have HB := Aside0.mk hb2; clear hg2 hb2)
  go_ret
  refine ⟨rfl, ?_, HB.out⟩
  have h := HG.out
  rw [lits8_take_drop, HR.out.1] at h
  exact h
set_option maxHeartbeats 1000000 in
set_option maxRecDepth 100000 in
theorem fresh (A : Option Addr) (m c r : Nat) (xs : List Int) (w : World) (hr : ReadsInt w .u8 A m xs) (hmr : m ≤ r) (hrr : r ≤ 281474976710656) :
    Calls Try.prog 54 #[.slice A m c, .int .i64 r] w fun e w' => e = .returned (.slice (some ⟨w.heap.size, 0, none⟩) m r) ∧ Row w' w.heap.size (xs ++ List.replicate (r - m) 0) ∧ Below w.heap.size w w' := by
  have hmk := makeU8 m r hmr hrr
  have HR := Aside0.mk hr
  clear hr
  go_enter Try.func54, Try.ntmps54
  go_wp2_with (refine wpList_copy_splice (o := ⟨some 12, _, _, _, _, _⟩) rfl (.tmp 10) (.tmp 11) 28 28 rfl 5 Try.underlying28 infoU1 (some ⟨w.heap.size, 0, none⟩) A m r m c rfl rfl w.heap.size 0 (lits8 (List.replicate r 0)) 5 (blk_new _ _) (lits8 xs) (by rw [lits8_length, HR.out.1]; exact (Nat.min_self m).symm) (fun h0 => ⟨rfl, reads_cells (HR.out.below (below_alloc (Below.refl _ _) _)) h0⟩) (by rw [lits8_length, lits8_length, HR.out.1]; simp; omega) (lits8_one xs) w.heap.size w (below_alloc (Below.refl _ _) _) (Nat.le_refl _) ?_; intro w2 hg2 hb2; have HG := Aside0.mk hg2; have HB := Aside0.mk hb2; clear hg2 hb2)
  go_ret
  refine ⟨rfl, ?_, HB.out⟩
  have h := HG.out
  rw [lits8_take_drop, HR.out.1] at h
  exact h

theorem within (a lo hi : Int) (w : World) : Calls Try.prog 50 #[.int .i64 a, .int .i64 lo, .int .i64 hi] w fun e w' => e = .returned (.bool (decide (lo ≤ a ∧ a ≤ hi))) ∧ ∃ m, w' = w.drewN m := by
  refine (PRoomMakes.room_within.calls a lo hi _ w ?_).mono fun e w' ⟨he, hd⟩ => ⟨he, hd.out⟩
  unfold PRoomMakes.room_within.f
  by_cases h1 : lo ≤ a <;> by_cases h2 : a ≤ hi <;> simp [h1, h2]
theorem inRoom (a : Int) (w : World) : Calls Try.prog 51 #[.int .i64 a] w fun e w' => e = .returned (.bool (decide (0 ≤ a ∧ a ≤ 100000))) ∧ ∃ m, w' = w.drewN m := by
  refine (PRoomMakes.cornref1_inRoom.calls a _ w ?_).mono fun e w' ⟨he, hd⟩ => ⟨he, hd.out⟩
  unfold PRoomMakes.cornref1_inRoom.f
  by_cases h1 : 0 ≤ a <;> by_cases h2 : a ≤ 100000 <;> simp [h1, h2]

/-- A new row, or none. -/
def Fresh (w w' : World) (A : Option Addr) (n r : Nat) (ys : List Int) : Prop :=
  (A = none ∧ n = 0 ∧ r = 0 ∧ ys = []) ∨ ∃ g, A = some ⟨g, 0, none⟩ ∧ w.heap.size ≤ g ∧ Row w' g ys ∧ ys.length = r ∧ n ≤ r
structure Shape where
  err : Int
  n : Nat
  room : Nat
  ys : List Int
def madeS (n r : Int) : Shape := if 0 ≤ r ∧ r ≤ 100000 then (if 0 ≤ n ∧ n ≤ r then ⟨0, n.toNat, r.toNat, List.replicate r.toNat 0⟩ else ⟨2, 0, 0, []⟩) else ⟨2, 0, 0, []⟩
def copiedS (m : Nat) (xs : List Int) (r : Int) : Shape := if 100000 < m then ⟨4, 0, 0, []⟩ else if 0 ≤ r ∧ r ≤ 100000 then (if (m : Int) ≤ r then ⟨0, m, r.toNat, xs ++ List.replicate (r.toNat - m) 0⟩ else ⟨2, 0, 0, []⟩) else ⟨2, 0, 0, []⟩
def GivesS (w : World) (s : Shape) (e : Ending) (w' : World) : Prop := ∃ A, e = .returned (.tuple #[.slice A s.n s.room, .int .i64 s.err]) ∧ Fresh w w' A s.n s.room s.ys ∧ Below w.heap.size w w'

set_option maxHeartbeats 1000000 in
set_option maxRecDepth 100000 in
theorem made (n r : Int) (w : World) : Calls Try.prog 20 #[.int .i64 n, .int .i64 r] w (GivesS w (madeS n r)) := by
  by_cases hr : 0 ≤ r ∧ r ≤ 100000
  · have hd : decide (0 ≤ r ∧ r ≤ 100000) = true := decide_eq_true hr
    by_cases hn : 0 ≤ n ∧ n ≤ r
    · have hS : madeS n r = ⟨0, n.toNat, r.toNat, List.replicate r.toNat 0⟩ := by unfold madeS; rw [if_pos hr, if_pos hn]
      have hd2 : decide (0 ≤ n ∧ n ≤ r) = true := decide_eq_true hn
      rw [hS]
      obtain ⟨a, rfl⟩ := Int.eq_ofNat_of_zero_le hn.1
      obtain ⟨b, rfl⟩ := Int.eq_ofNat_of_zero_le hr.1
      have hmk := makeU8 a b (by omega) (by omega)
      have hab : a ≤ b := by omega
      clear hr hn hS
      go_enter Try.func20, Try.ntmps20
      go_wp2_with (go_at_call 50; refine (within _ _ _ _).mono ?_; rintro e w1 ⟨rfl, m1, rfl⟩; first | rw [hd] | rw [hd2])
      go_ret2
      exact ⟨some ⟨w.heap.size, 0, none⟩, rfl, .inr ⟨_, rfl, Nat.le_refl _, blk_new _ _, by simp, by simpa using hab⟩, below_alloc (pw_below_drewN (Below.refl _ _) _) _⟩
    · have hS : madeS n r = ⟨2, 0, 0, []⟩ := by unfold madeS; rw [if_pos hr, if_neg hn]
      have hd2 : decide (0 ≤ n ∧ n ≤ r) = false := decide_eq_false hn
      rw [hS]
      clear hr hn hS
      go_enter Try.func20, Try.ntmps20
      go_wp2_with (go_at_call 50; refine (within _ _ _ _).mono ?_; rintro e w1 ⟨rfl, m1, rfl⟩; first | rw [hd] | rw [hd2])
      go_ret2
      exact ⟨none, rfl, .inl ⟨rfl, rfl, rfl, rfl⟩, pw_below_drewN (Below.refl _ _) _⟩
  · have hd : decide (0 ≤ r ∧ r ≤ 100000) = false := decide_eq_false hr
    have hS : madeS n r = ⟨2, 0, 0, []⟩ := by unfold madeS; rw [if_neg hr]
    rw [hS]
    clear hr hS
    go_enter Try.func20, Try.ntmps20
    go_wp2_with (go_at_call 50; refine (within _ _ _ _).mono ?_; rintro e w1 ⟨rfl, m1, rfl⟩; rw [hd])
    go_ret2
    exact ⟨none, rfl, .inl ⟨rfl, rfl, rfl, rfl⟩, pw_below_drewN (Below.refl _ _) _⟩

set_option maxHeartbeats 1000000 in
set_option maxRecDepth 100000 in
theorem madeOf (n r : Int) (w : World) : Calls Try.prog 21 #[.int .i64 n, .int .i64 r] w (GivesS w (madeS n r)) := by
  by_cases hr : 0 ≤ r ∧ r ≤ 100000
  · have hd : decide (0 ≤ r ∧ r ≤ 100000) = true := decide_eq_true hr
    by_cases hn : 0 ≤ n
    · by_cases hn2 : n ≤ r
      · have hS : madeS n r = ⟨0, n.toNat, r.toNat, List.replicate r.toNat 0⟩ := by unfold madeS; rw [if_pos hr, if_pos ⟨hn, hn2⟩]
        rw [hS]
        obtain ⟨a, rfl⟩ := Int.eq_ofNat_of_zero_le hn
        obtain ⟨b, rfl⟩ := Int.eq_ofNat_of_zero_le hr.1
        have hmk := makeU8 a b (by omega) (by omega)
        have hab : a ≤ b := by omega
        have hd2 : decide ((b : Int) < (a : Int)) = false := decide_eq_false (by omega)
        clear hr hn hn2 hS
        go_enter Try.func21, Try.ntmps21
        go_wp2_with (go_at_call 51; refine (inRoom _ _).mono ?_; rintro e w1 ⟨rfl, m1, rfl⟩; rw [hd])
        go_ret2
        exact ⟨some ⟨w.heap.size, 0, none⟩, rfl, .inr ⟨_, rfl, Nat.le_refl _, blk_new _ _, by simp, by simpa using hab⟩, below_alloc (pw_below_drewN (Below.refl _ _) _) _⟩
      · have hS : madeS n r = ⟨2, 0, 0, []⟩ := by unfold madeS; rw [if_pos hr, if_neg (fun h => hn2 h.2)]
        rw [hS]
        have hd1 : decide (n < 0) = false := decide_eq_false (by omega)
        have hd2 : decide (r < n) = true := decide_eq_true (by omega)
        clear hr hS
        go_enter Try.func21, Try.ntmps21
        go_wp2_with (go_at_call 51; refine (inRoom _ _).mono ?_; rintro e w1 ⟨rfl, m1, rfl⟩; rw [hd])
        go_ret2
        exact ⟨none, rfl, .inl ⟨rfl, rfl, rfl, rfl⟩, pw_below_drewN (Below.refl _ _) _⟩
    · have hS : madeS n r = ⟨2, 0, 0, []⟩ := by unfold madeS; rw [if_pos hr, if_neg (fun h => hn h.1)]
      rw [hS]
      have hd1 : decide (n < 0) = true := decide_eq_true (by omega)
      clear hr hS
      go_enter Try.func21, Try.ntmps21
      go_wp2_with (go_at_call 51; refine (inRoom _ _).mono ?_; rintro e w1 ⟨rfl, m1, rfl⟩; rw [hd])
      go_ret2
      exact ⟨none, rfl, .inl ⟨rfl, rfl, rfl, rfl⟩, pw_below_drewN (Below.refl _ _) _⟩
  · have hd : decide (0 ≤ r ∧ r ≤ 100000) = false := decide_eq_false hr
    have hS : madeS n r = ⟨2, 0, 0, []⟩ := by unfold madeS; rw [if_neg hr]
    rw [hS]
    clear hr hS
    go_enter Try.func21, Try.ntmps21
    go_wp2_with (go_at_call 51; refine (inRoom _ _).mono ?_; rintro e w1 ⟨rfl, m1, rfl⟩; rw [hd])
    go_ret2
    exact ⟨none, rfl, .inl ⟨rfl, rfl, rfl, rfl⟩, pw_below_drewN (Below.refl _ _) _⟩

set_option maxHeartbeats 1000000 in
set_option maxRecDepth 100000 in
theorem copiedOwn (A : Option Addr) (m c : Nat) (r : Int) (xs : List Int) (w : World) (hr : ReadsInt w .u8 A m xs) : Calls Try.prog 22 #[.slice A m c, .int .i64 r] w (GivesS w (copiedS m xs r)) := by
  have hlen := hr.1
  have hm63 := hr.2.1
  have HR := Aside0.mk hr
  clear hr
  by_cases hm : 100000 < m
  · have hS : copiedS m xs r = ⟨4, 0, 0, []⟩ := by unfold copiedS; rw [if_pos hm]
    rw [hS]
    have hd : decide (100000 < (m : Int)) = true := decide_eq_true (by omega)
    clear hS
    go_enter Try.func22, Try.ntmps22
    go_wp2
    go_ret2
    exact ⟨none, rfl, .inl ⟨rfl, rfl, rfl, rfl⟩, Below.refl _ _⟩
  · have hdm : decide (100000 < (m : Int)) = false := decide_eq_false (by omega)
    by_cases hr : 0 ≤ r ∧ r ≤ 100000
    · have hd : decide (0 ≤ r ∧ r ≤ 100000) = true := decide_eq_true hr
      obtain ⟨b, rfl⟩ := Int.eq_ofNat_of_zero_le hr.1
      by_cases hn : (m : Int) ≤ b
      · have hS : copiedS m xs b = ⟨0, m, b, xs ++ List.replicate (b - m) 0⟩ := by unfold copiedS; rw [if_neg hm, if_pos hr, if_pos hn]; rfl
        rw [hS]
        have hd2 : decide ((b : Int) < (m : Int)) = false := decide_eq_false (by omega)
        have hb : b ≤ 100000 := by omega
        have hmb : m ≤ b := by omega
        clear hr hn hS
        go_enter Try.func22, Try.ntmps22
        go_wp2_with (go_at_call 50; refine (within _ _ _ _).mono ?_; rintro e w1 ⟨rfl, m1, rfl⟩; rw [hd])
        refine (copied A m c b xs _ (HR.out.drewN _) hmb (by omega)).mono ?_
        rintro e w2 ⟨rfl, hrow, hb2⟩
        have HRow := Aside0.mk hrow
        have HB2 := Aside0.mk hb2
        clear hrow hb2
        go_wp2_with fail
        go_ret2
        exact ⟨some ⟨w.heap.size, 0, none⟩, rfl, .inr ⟨_, rfl, Nat.le_refl _, HRow.out, by simp [hlen]; omega, hmb⟩, below_then (pw_below_drewN (Below.refl _ _) _) (Nat.le_refl _) HB2.out⟩
      · have hS : copiedS m xs b = ⟨2, 0, 0, []⟩ := by unfold copiedS; rw [if_neg hm, if_pos hr, if_neg hn]
        rw [hS]
        have hd2 : decide ((b : Int) < (m : Int)) = true := decide_eq_true (by omega)
        clear hr hS
        go_enter Try.func22, Try.ntmps22
        go_wp2_with (go_at_call 50; refine (within _ _ _ _).mono ?_; rintro e w1 ⟨rfl, m1, rfl⟩; rw [hd])
        go_ret2
        exact ⟨none, rfl, .inl ⟨rfl, rfl, rfl, rfl⟩, pw_below_drewN (Below.refl _ _) _⟩
    · have hd : decide (0 ≤ r ∧ r ≤ 100000) = false := decide_eq_false hr
      have hS : copiedS m xs r = ⟨2, 0, 0, []⟩ := by unfold copiedS; rw [if_neg hm, if_neg hr]
      rw [hS]
      clear hr hS
      go_enter Try.func22, Try.ntmps22
      go_wp2_with (go_at_call 50; refine (within _ _ _ _).mono ?_; rintro e w1 ⟨rfl, m1, rfl⟩; rw [hd])
      go_ret2
      exact ⟨none, rfl, .inl ⟨rfl, rfl, rfl, rfl⟩, pw_below_drewN (Below.refl _ _) _⟩

set_option maxHeartbeats 1000000 in
set_option maxRecDepth 100000 in
theorem copiedOf (A : Option Addr) (m c : Nat) (r : Int) (xs : List Int) (w : World) (hr : ReadsInt w .u8 A m xs) : Calls Try.prog 23 #[.slice A m c, .int .i64 r] w (GivesS w (copiedS m xs r)) := by
  have hlen := hr.1
  have hm63 := hr.2.1
  have HR := Aside0.mk hr
  clear hr
  by_cases hm : 100000 < m
  · have hS : copiedS m xs r = ⟨4, 0, 0, []⟩ := by unfold copiedS; rw [if_pos hm]
    rw [hS]
    have hd : decide (100000 < (m : Int)) = true := decide_eq_true (by omega)
    clear hS
    go_enter Try.func23, Try.ntmps23
    go_wp2
    go_ret2
    exact ⟨none, rfl, .inl ⟨rfl, rfl, rfl, rfl⟩, Below.refl _ _⟩
  · have hdm : decide (100000 < (m : Int)) = false := decide_eq_false (by omega)
    by_cases hr : 0 ≤ r ∧ r ≤ 100000
    · have hd : decide (0 ≤ r ∧ r ≤ 100000) = true := decide_eq_true hr
      obtain ⟨b, rfl⟩ := Int.eq_ofNat_of_zero_le hr.1
      by_cases hn : (m : Int) ≤ b
      · have hS : copiedS m xs b = ⟨0, m, b, xs ++ List.replicate (b - m) 0⟩ := by unfold copiedS; rw [if_neg hm, if_pos hr, if_pos hn]; rfl
        rw [hS]
        have hd2 : decide ((b : Int) < (m : Int)) = false := decide_eq_false (by omega)
        have hb : b ≤ 100000 := by omega
        have hmb : m ≤ b := by omega
        clear hr hn hS
        go_enter Try.func23, Try.ntmps23
        go_wp2_with (go_at_call 51; refine (inRoom _ _).mono ?_; rintro e w1 ⟨rfl, m1, rfl⟩; rw [hd])
        refine (fresh A m c b xs _ (HR.out.drewN _) hmb (by omega)).mono ?_
        rintro e w2 ⟨rfl, hrow, hb2⟩
        have HRow := Aside0.mk hrow
        have HB2 := Aside0.mk hb2
        clear hrow hb2
        go_wp2_with fail
        go_ret2
        exact ⟨some ⟨w.heap.size, 0, none⟩, rfl, .inr ⟨_, rfl, Nat.le_refl _, HRow.out, by simp [hlen]; omega, hmb⟩, below_then (pw_below_drewN (Below.refl _ _) _) (Nat.le_refl _) HB2.out⟩
      · have hS : copiedS m xs b = ⟨2, 0, 0, []⟩ := by unfold copiedS; rw [if_neg hm, if_pos hr, if_neg hn]
        rw [hS]
        have hd2 : decide ((b : Int) < (m : Int)) = true := decide_eq_true (by omega)
        clear hr hS
        go_enter Try.func23, Try.ntmps23
        go_wp2_with (go_at_call 51; refine (inRoom _ _).mono ?_; rintro e w1 ⟨rfl, m1, rfl⟩; rw [hd])
        go_ret2
        exact ⟨none, rfl, .inl ⟨rfl, rfl, rfl, rfl⟩, pw_below_drewN (Below.refl _ _) _⟩
    · have hd : decide (0 ≤ r ∧ r ≤ 100000) = false := decide_eq_false hr
      have hS : copiedS m xs r = ⟨2, 0, 0, []⟩ := by unfold copiedS; rw [if_neg hm, if_neg hr]
      rw [hS]
      clear hr hS
      go_enter Try.func23, Try.ntmps23
      go_wp2_with (go_at_call 51; refine (inRoom _ _).mono ?_; rintro e w1 ⟨rfl, m1, rfl⟩; rw [hd])
      go_ret2
      exact ⟨none, rfl, .inl ⟨rfl, rfl, rfl, rfl⟩, pw_below_drewN (Below.refl _ _) _⟩

end Go.Proofs.Ytancgipidbojkaa.Twin
