/- The book: Take and Give; a book with one account. -/
import Derived.Test.YticbjaclnneaoaaBook4
namespace Go.Proofs.Yticbjaclnneaoaa.Book
set_option linter.unusedVariables false
open Go.RowKit Go.Proofs.YticbjaclnneaoaaW.PrintWords Go.Proofs.YticbjaclnneaoaaW.PrintLast Go.Proofs.YticbjaclnneaoaaW.PrintMore Go.Proofs.Yticbjaclnneaoaa.MapInt
set_option linter.unusedSimpArgs false

/-- The error of Take. -/
def takeErr (b : BookS) (owner n : Int) : Int :=
  if checkS owner [n] ≠ 0 then checkS owner [n] else match b.acc owner with
    | none => 7
    | some a => if leftS b a < n then 12 else 0

theorem checkS_one {owner x : Int} (h : checkS owner [x] = 0) : (1 ≤ owner ∧ owner ≤ 40) ∧ (0 ≤ x ∧ x ≤ 10000000) := by
  unfold checkS at h
  split at h
  · rename_i h1
    split at h
    · rename_i h2
      exact ⟨h1, h2 x (by simp)⟩
    · omega
  · omega

set_option maxHeartbeats 1000000 in
set_option maxRecDepth 100000 in
theorem take_bad {p : Nat} {b : BookS} {q : Parts} {w : World} (hB : BookAt w p b q) (hok : b.OK) (owner n : Int) (he : takeErr b owner n ≠ 0) :
    Calls Try.prog 43 #[.pointer (some ⟨p, 0, none⟩), .int .i64 owner, .int .i64 n] w fun e w' => e = .returned (.int .i64 (takeErr b owner n)) ∧ Leaves w w' p q b := by
  have hr : ReadsInt (w.alloc (.cells #[.int .i64 n] 3)) .i64 (some ⟨w.heap.size, 0, none⟩) 1 [n] := own_reads' (own_lit w 0 3 .i64 [n] (Nat.zero_le _) (by simp))
  have hB1 : BookAt (w.alloc (.cells #[.int .i64 n] 3)) p b q := hB.frame (fun k hk => Below.heap_alloc _ _ _ (hB.lt hk))
  by_cases hs : checkS owner [n] = 0
  · have hce : takeErr b owner n = match b.acc owner with
      | none => 7
      | some a => if leftS b a < n then 12 else 0 := by unfold takeErr; rw [if_neg (by simpa using hs)]
    cases ha : b.acc owner with
    | none =>
      rw [ha] at hce
      simp only at hce
      rw [hce]
      have hm : mget (q.M b) owner = none := by
        rcases M_get hB owner with ⟨_, h⟩ | ⟨a, g, h, _⟩
        · exact h
        · rw [ha] at h; cases h
      have HH := Aside0.mk (account_none hB1 owner _ 1 1 _ hr hs hm)
      have HL := Aside0.mk (leaves_same hB (below_alloc (o := .cells #[.int .i64 n] 3) (Below.refl _ w)))
      clear hce he hs hr hB1 hm ha hB
      go_enter Try.func43, Try.ntmps43
      go_wp2_with (first | (go_at_call 39; refine HH.out.mono ?_; rintro e w' ⟨rfl, rfl⟩))
      go_ret
      exact ⟨rfl, HL.out⟩
    | some a =>
      rw [ha] at hce
      simp only at hce
      obtain ⟨i, g, x, i1, i2, i3, i4, i5, i6⟩ := M_idx hB owner ha
      have hb := hok.accs x (List.mem_of_getElem? i1)
      rw [i2] at hb
      have hg1 : (w.alloc (.cells #[.int .i64 n] 3)).heap[g]? = some (accCells a) := blk_alloc i6 _
      have HH := Aside0.mk (account_some hB1 owner _ 1 1 _ hr hs _ i5)
      have HLf := Aside0.mk (left p g b.budget b.total _ _ _ _ _ a _ hB1.head hg1 hb.1 hb.2.1 hb.2.2.1 hb.2.2.2 hok.t0 (by have := hok.t1; have := hok.b1; omega) hok.b0 hok.b1)
      by_cases h12 : leftS b a < n
      · have hd2 : decide (leftS b a < n) = true := decide_eq_true h12
        have hv : takeErr b owner n = 12 := by rw [hce, if_pos h12]
        rw [hv]
        unfold leftS at hd2
        generalize mn (a.limit - (a.held + a.leased)) (b.budget - b.total) = L at HLf hd2
        have HL2 : ∀ m, Aside0 (Leaves w ((w.alloc (.cells #[.int .i64 n] 3)).drewN m) p q b) := fun m => ⟨leaves_same hB (pw_below_drewN (below_alloc (Below.refl _ w) _) m)⟩
        clear hv hce he hs hr hB1 hB i1 i2 i3 i4 i5 i6 hg1 hb h12
        go_enter Try.func43, Try.ntmps43
        go_wp2_with (first | (go_at_call 39; refine HH.out.mono ?_; rintro e w' ⟨rfl, rfl⟩) | (go_at_call 50; refine HLf.out.mono ?_; rintro e w' ⟨rfl, m9, rfl⟩))
        go_ret
        exact ⟨rfl, (HL2 _).out⟩
      · rw [if_neg h12] at hce
        exact absurd hce he
  · have hce : takeErr b owner n = checkS owner [n] := by unfold takeErr; rw [if_pos hs]
    rw [hce]
    have hd : (checkS owner [n] != 0) = true := by simp [hs]
    have HH := Aside0.mk (account_bad p owner _ 1 1 _ (w.alloc (.cells #[.int .i64 n] 3)) hr hs)
    have HL := Aside0.mk (leaves_same hB (below_alloc (o := .cells #[.int .i64 n] 3) (Below.refl _ w)))
    clear hce he hr hB1 hB hs
    go_enter Try.func43, Try.ntmps43
    go_wp2_with (first | (go_at_call 39; refine HH.out.mono ?_; rintro e w' ⟨rfl, rfl⟩))
    go_ret
    exact ⟨rfl, HL.out⟩

set_option maxHeartbeats 1000000 in
set_option maxRecDepth 100000 in
theorem take_ok {p : Nat} {b : BookS} {q : Parts} {w : World} (hB : BookAt w p b q) (hok : b.OK) (owner n : Int) (he : takeErr b owner n = 0) :
    Calls Try.prog 43 #[.pointer (some ⟨p, 0, none⟩), .int .i64 owner, .int .i64 n] w fun e w' => e = .returned (.int .i64 0) ∧
      ∃ (i : Nat) (x : Int × Acc), b.accs[i]? = some x ∧ x.1 = owner ∧ b.acc owner = some x.2 ∧ 0 ≤ n ∧ n ≤ leftS b x.2 ∧ Leaves w w' p q (b.hold i owner n) := by
  have hr : ReadsInt (w.alloc (.cells #[.int .i64 n] 3)) .i64 (some ⟨w.heap.size, 0, none⟩) 1 [n] := own_reads' (own_lit w 0 3 .i64 [n] (Nat.zero_le _) (by simp))
  have hB1 : BookAt (w.alloc (.cells #[.int .i64 n] 3)) p b q := hB.frame (fun k hk => Below.heap_alloc _ _ _ (hB.lt hk))
  by_cases hs : checkS owner [n] = 0
  · have hce : takeErr b owner n = match b.acc owner with
      | none => 7
      | some a => if leftS b a < n then 12 else 0 := by unfold takeErr; rw [if_neg (by simpa using hs)]
    cases ha : b.acc owner with
    | none => rw [ha, he] at hce; simp at hce
    | some a =>
      rw [ha, he] at hce
      simp only at hce
      obtain ⟨i, g, x, i1, i2, i3, i4, i5, i6⟩ := M_idx hB owner ha
      have hb := hok.accs x (List.mem_of_getElem? i1)
      rw [i2] at hb
      obtain ⟨f1, f2⟩ := checkS_one hs
      have hg1 : (w.alloc (.cells #[.int .i64 n] 3)).heap[g]? = some (accCells a) := blk_alloc i6 _
      have HH := Aside0.mk (account_some hB1 owner _ 1 1 _ hr hs _ i5)
      have ht1 : b.total ≤ 10000000 := by have := hok.t1; have := hok.b1; omega
      have HLf := Aside0.mk (left p g b.budget b.total _ _ _ _ _ a _ hB1.head hg1 hb.1 hb.2.1 hb.2.2.1 hb.2.2.2 hok.t0 ht1 hok.b0 hok.b1)
      have h12 : ¬ leftS b a < n := fun h => by rw [if_pos h] at hce; omega
      have hd2 : decide (leftS b a < n) = false := decide_eq_false h12
      have HLe : Hid (0 ≤ n ∧ n ≤ leftS b a) := Lib.hid (by omega)
      unfold leftS at hd2
      generalize mn (a.limit - (a.held + a.leased)) (b.budget - b.total) = L at HLf hd2
      subst i2
      have HHo := Aside0.mk (fun m => hold (w := (w.alloc (.cells #[.int .i64 n] 3)).drewN m) (hB1.frame (fun k hk => rfl)) i4 i1 owner n hb.1 (by omega) hok.t0 ht1 (by omega) (by omega))
      have HI := Aside0.mk (And.intro i1 i3)
      have HBB := Aside0.mk hB
      clear hce he hs hr hB1 hB i1 i3 i4 i5 i6 hg1 hb h12
      go_enter Try.func43, Try.ntmps43
      go_wp2_with (first | (go_at_call 39; refine HH.out.mono ?_; rintro e w' ⟨rfl, rfl⟩) | (go_at_call 50; refine HLf.out.mono ?_; rintro e w' ⟨rfl, m9, rfl⟩))
      refine (HHo.out _).mono ?_
      rintro e w3 ⟨rfl, hlv⟩
      have HLV := Aside0.mk (leaves_then HBB.out (pw_below_drewN (below_alloc (Below.refl _ _) _) _) hlv)
      clear hlv
      go_wp2_with fail
      go_ret
      exact ⟨rfl, i, x, HI.out.1, HI.out.2, rfl, HLe.out.1, HLe.out.2, HLV.out⟩
  · exfalso
    unfold takeErr at he
    rw [if_pos hs] at he
    exact hs he

/-- A book with the one account number 1, which holds h. -/
structure One (b : BookS) (h : Int) : Prop where
  accs : b.accs = [(1, ⟨10000000, h, 0⟩)]
  budget : b.budget = 10000000
  total : b.total = h
theorem One.acc {b : BookS} {h : Int} (o : One b h) : b.acc 1 = some ⟨10000000, h, 0⟩ := by unfold BookS.acc; rw [o.accs]; rfl
theorem One.held {b : BookS} {h : Int} (o : One b h) : heldS b 1 = (h, 0) := by unfold heldS; rw [o.acc]; rfl
theorem One.only {b : BookS} {h : Int} (o : One b h) {i : Nat} {x : Int × Acc} (hx : b.accs[i]? = some x) : i = 0 ∧ x = (1, ⟨10000000, h, 0⟩) := by
  rw [o.accs] at hx
  cases i with
  | zero => exact ⟨rfl, by simpa using hx.symm⟩
  | succ i => simp at hx
theorem One.put {b : BookS} {h : Int} (o : One b h) (n k ow am : Int) : One (b.put 0 n k ow am) (h + n) :=
  ⟨by simp [BookS.put, o.accs], o.budget, by simp [BookS.put, o.total]⟩
theorem One.hold {b : BookS} {h : Int} (o : One b h) (ow n : Int) : One (b.hold 0 ow n) (h + n) := o.put _ _ _ _
theorem One.ok {b : BookS} {h : Int} (o : One b h) (h0 : 0 ≤ h) (h1 : h ≤ 10000000) : b.OK where
  b0 := by rw [o.budget]; decide
  b1 := by rw [o.budget]; decide
  t0 := by rw [o.total]; exact h0
  t1 := by rw [o.total, o.budget]; exact h1
  accs := fun x hx => by
    rw [o.accs] at hx
    obtain rfl := List.mem_singleton.1 hx
    exact ⟨h0, Int.le_refl 0, by simpa using h1, Int.le_refl _⟩
  sum := by rw [o.total, o.accs]; simp
theorem One.leftS {b : BookS} {h : Int} (o : One b h) (a : Acc) (ha : a = ⟨10000000, h, 0⟩) : Book.leftS b a = 10000000 - h := by
  subst ha
  unfold Book.leftS mn
  rw [o.budget, o.total]
  simp
end Go.Proofs.Yticbjaclnneaoaa.Book
