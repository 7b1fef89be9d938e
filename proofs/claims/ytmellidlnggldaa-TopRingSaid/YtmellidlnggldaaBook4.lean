/- The book: Take, Give and Change. -/
import Derived.Test.YtmellidlnggldaaBook3
namespace Go.Proofs.Ytmellidlnggldaa.Book
set_option linter.unusedVariables false
open Go.RowKit Go.Proofs.YtmellidlnggldaaW.PrintWords Go.Proofs.YtmellidlnggldaaW.PrintLast Go.Proofs.YtmellidlnggldaaW.PrintMore Go.Proofs.Ytmellidlnggldaa.MapInt
set_option linter.unusedSimpArgs false

/-- The numbers of a book are in their bounds. -/
structure BookS.OK (b : BookS) : Prop where
  b0 : 0 ≤ b.budget
  b1 : b.budget ≤ 10000000
  t0 : 0 ≤ b.total
  t1 : b.total ≤ b.budget
  accs : ∀ x ∈ b.accs, 0 ≤ x.2.held ∧ 0 ≤ x.2.leased ∧ x.2.held + x.2.leased ≤ x.2.limit ∧ x.2.limit ≤ 10000000
  sum : b.total = (b.accs.map fun x => x.2.held + x.2.leased).sum

theorem M_idx {w : World} {p : Nat} {b : BookS} {q : Parts} (hB : BookAt w p b q) (owner : Int) {a : Acc} (h : b.acc owner = some a) :
    ∃ (i g : Nat) (x : Int × Acc), b.accs[i]? = some x ∧ x.2 = a ∧ x.1 = owner ∧ q.gs[i]? = some g ∧ mget (q.M b) owner = some (.pointer (some ⟨g, 0, none⟩)) ∧ w.heap[g]? = some (accCells a) := by
  have hl := hB.len
  have hb := hB.boxes
  unfold BookS.acc at h
  unfold Parts.M
  generalize b.accs = l at *
  generalize q.gs = gs at *
  induction l generalizing gs with
  | nil => simp at h
  | cons c l ih =>
    cases gs with
    | nil => simp at hl
    | cons g gs =>
      obtain ⟨c', hc', hg⟩ := hb 0 g rfl
      obtain rfl : c = c' := by simpa using hc'
      by_cases ho : owner = c.1
      · have ha : c.2 = a := by simpa [ho] using h
        refine ⟨0, g, c, rfl, ha, ho.symm, rfl, ?_, by rw [← ha]; exact hg⟩
        simp [mget, ho]
      · have ho' : ¬ c.1 = owner := fun e => ho e.symm
        obtain ⟨i, g', x, h1, h2, h3, h4, h5, h6⟩ := ih (by simpa [ho'] using h) gs (by simpa using hl) (fun i k hk => hb (i + 1) k (by simpa using hk))
        exact ⟨i + 1, g', x, by simpa using h1, h2, h3, by simpa using h4, by simpa [mget, ho] using h5, h6⟩

/-- The error of Change. -/
def changeErr (b : BookS) (owner fr te : Int) : Int :=
  if checkS owner [fr, te] ≠ 0 then checkS owner [fr, te] else match b.acc owner with
    | none => 7
    | some a => if a.held < fr then 5 else if leftS b a < te - fr then 12 else 0

theorem checkS_two {owner x y : Int} (h : checkS owner [x, y] = 0) : (1 ≤ owner ∧ owner ≤ 40) ∧ (0 ≤ x ∧ x ≤ 10000000) ∧ (0 ≤ y ∧ y ≤ 10000000) := by
  unfold checkS at h
  split at h
  · rename_i h1
    split at h
    · rename_i h2
      exact ⟨h1, h2 x (by simp), h2 y (by simp)⟩
    · omega
  · omega

/-- What a call of the book's leaves: a book, and all else. -/
def Leaves (w w' : World) (p : Nat) (q : Parts) (b' : BookS) : Prop := ∃ q', BookAt w' p b' q' ∧ Upd (q.Foot p) w w' ∧ (∀ k, q'.Foot p k → q.Foot p k ∨ w.heap.size ≤ k)
theorem leaves_same {w w' : World} {p : Nat} {b : BookS} {q : Parts} (hB : BookAt w p b q) (hb : Below w.heap.size w w') : Leaves w w' p q b :=
  ⟨q, hB.frame (fun k hk => hb.block k (hB.lt hk)), Upd.of_below hb, fun k hk => .inl hk⟩
theorem leaves_then {w W w' : World} {p : Nat} {b b' : BookS} {q : Parts} (hB : BookAt w p b q) (hb : Below w.heap.size w W) (h : ∃ q', BookAt w' p b' q' ∧ Upd (q.Foot p) W w' ∧ (∀ k, q'.Foot p k → q.Foot p k ∨ W.heap.size ≤ k)) : Leaves w w' p q b' := by
  obtain ⟨q', h1, h2, h3⟩ := h
  exact ⟨q', h1, (Upd.of_below hb).then h2 (fun k hk => .inl hk), fun k hk => (h3 k hk).imp id (Nat.le_trans hb.size)⟩

set_option maxHeartbeats 1000000 in
set_option maxRecDepth 100000 in
theorem change_bad {p : Nat} {b : BookS} {q : Parts} {w : World} (hB : BookAt w p b q) (hok : b.OK) (owner fr te : Int) (he : changeErr b owner fr te ≠ 0) :
    Calls Try.prog 48 #[.pointer (some ⟨p, 0, none⟩), .int .i64 owner, .int .i64 fr, .int .i64 te] w fun e w' => e = .returned (.int .i64 (changeErr b owner fr te)) ∧ Leaves w w' p q b := by
  have hr : ReadsInt (w.alloc (.cells #[.int .i64 fr, .int .i64 te] 3)) .i64 (some ⟨w.heap.size, 0, none⟩) 2 [fr, te] := own_reads' (own_lit w 0 3 .i64 [fr, te] (Nat.zero_le _) (by simp))
  have hB1 : BookAt (w.alloc (.cells #[.int .i64 fr, .int .i64 te] 3)) p b q := hB.frame (fun k hk => Below.heap_alloc _ _ _ (hB.lt hk))
  by_cases hs : checkS owner [fr, te] = 0
  · have hce : changeErr b owner fr te = match b.acc owner with
      | none => 7
      | some a => if a.held < fr then 5 else if leftS b a < te - fr then 12 else 0 := by unfold changeErr; rw [if_neg (by simpa using hs)]
    cases ha : b.acc owner with
    | none =>
      rw [ha] at hce
      simp only at hce
      rw [hce]
      have hm : mget (q.M b) owner = none := by
        rcases M_get hB owner with ⟨_, h⟩ | ⟨a, g, h, _⟩
        · exact h
        · rw [ha] at h; cases h
      have HH := Aside0.mk (account_none hB1 owner _ 2 2 _ hr hs hm)
      have HL := Aside0.mk (leaves_same hB (below_alloc (o := .cells #[.int .i64 fr, .int .i64 te] 3) (Below.refl _ w)))
      clear hce he hs hr hB1 hm ha hB
      go_enter Try.func48, Try.ntmps48
      go_wp2_with (first | (go_at_call 37; refine HH.out.mono ?_; rintro e w' ⟨rfl, rfl⟩))
      go_ret
      exact ⟨rfl, HL.out⟩
    | some a =>
      rw [ha] at hce
      simp only at hce
      obtain ⟨i, g, x, i1, i2, i3, i4, i5, i6⟩ := M_idx hB owner ha
      have hb := hok.accs x (List.mem_of_getElem? i1)
      rw [i2] at hb
      obtain ⟨f1, f2, f3⟩ := checkS_two hs
      have hg1 : (w.alloc (.cells #[.int .i64 fr, .int .i64 te] 3)).heap[g]? = some (accCells a) := blk_alloc i6 _
      have hc1 : (w.alloc (.cells #[.int .i64 fr, .int .i64 te] 3)).cell? ⟨g, 1, none⟩ = some (.int .i64 a.held) := by rw [blk_cell hg1]; rfl
      have HH := Aside0.mk (account_some hB1 owner _ 2 2 _ hr hs _ i5)
      have HLf := Aside0.mk (left p g b.budget b.total _ _ _ _ _ a _ hB1.head hg1 hb.1 hb.2.1 hb.2.2.1 hb.2.2.2 hok.t0 (by have := hok.t1; have := hok.b1; omega) hok.b0 hok.b1)
      have HL := Aside0.mk (leaves_same hB (below_alloc (o := .cells #[.int .i64 fr, .int .i64 te] 3) (Below.refl _ w)))
      by_cases h5 : a.held < fr
      · have hd : decide (fr > a.held) = true := decide_eq_true h5
        have hv : changeErr b owner fr te = 5 := by rw [hce, if_pos h5]
        rw [hv]
        clear hv hce he hs hr hB1 hB i1 i2 i3 i4 i5 i6 hg1 hb
        go_enter Try.func48, Try.ntmps48
        go_wp2_with (first | (go_at_call 37; refine HH.out.mono ?_; rintro e w' ⟨rfl, rfl⟩))
        go_ret
        exact ⟨rfl, HL.out⟩
      · rw [if_neg h5] at hce
        have hd : decide (fr > a.held) = false := decide_eq_false h5
        by_cases h12 : leftS b a < te - fr
        · have hd2 : decide (leftS b a < te - fr) = true := decide_eq_true h12
          have hv : changeErr b owner fr te = 12 := by rw [hce, if_pos h12]
          rw [hv]
          unfold leftS at hd2
          generalize mn (a.limit - (a.held + a.leased)) (b.budget - b.total) = L at HLf hd2
          have HL2 : ∀ m, Aside0 (Leaves w ((w.alloc (.cells #[.int .i64 fr, .int .i64 te] 3)).drewN m) p q b) := fun m => ⟨leaves_same hB (pw_below_drewN (below_alloc (Below.refl _ w) _) m)⟩
          clear hv hce he hs hr hB1 hB i1 i2 i3 i4 i5 i6 hg1 hb h12
          go_enter Try.func48, Try.ntmps48
          go_wp2_with (first | (go_at_call 37; refine HH.out.mono ?_; rintro e w' ⟨rfl, rfl⟩) | (go_at_call 43; refine HLf.out.mono ?_; rintro e w' ⟨rfl, m9, rfl⟩))
          go_ret
          exact ⟨rfl, (HL2 _).out⟩
        · rw [if_neg h12] at hce
          exact absurd hce he
  · have hce : changeErr b owner fr te = checkS owner [fr, te] := by unfold changeErr; rw [if_pos hs]
    rw [hce]
    have hd : (checkS owner [fr, te] != 0) = true := by simp [hs]
    have HH := Aside0.mk (account_bad p owner _ 2 2 _ (w.alloc (.cells #[.int .i64 fr, .int .i64 te] 3)) hr hs)
    have HL := Aside0.mk (leaves_same hB (below_alloc (o := .cells #[.int .i64 fr, .int .i64 te] 3) (Below.refl _ w)))
    clear hce he hr hB1 hB hs
    go_enter Try.func48, Try.ntmps48
    go_wp2_with (first | (go_at_call 37; refine HH.out.mono ?_; rintro e w' ⟨rfl, rfl⟩))
    go_ret
    exact ⟨rfl, HL.out⟩

/-- A book whose account number i holds n more. -/
def BookS.hold (b : BookS) (i : Nat) (owner n : Int) : BookS := b.put i n (if 0 ≤ n then 3 else 4) owner (if 0 ≤ n then n else -n)

set_option maxHeartbeats 1000000 in
set_option maxRecDepth 100000 in
theorem change_ok {p : Nat} {b : BookS} {q : Parts} {w : World} (hB : BookAt w p b q) (hok : b.OK) (owner fr te : Int) (he : changeErr b owner fr te = 0) :
    Calls Try.prog 48 #[.pointer (some ⟨p, 0, none⟩), .int .i64 owner, .int .i64 fr, .int .i64 te] w fun e w' => e = .returned (.int .i64 0) ∧
      ∃ (i : Nat) (x : Int × Acc), b.accs[i]? = some x ∧ x.1 = owner ∧ b.acc owner = some x.2 ∧ fr ≤ x.2.held ∧ te - fr ≤ leftS b x.2 ∧ Leaves w w' p q (if fr = te then b else b.hold i owner (te - fr)) := by
  have hr : ReadsInt (w.alloc (.cells #[.int .i64 fr, .int .i64 te] 3)) .i64 (some ⟨w.heap.size, 0, none⟩) 2 [fr, te] := own_reads' (own_lit w 0 3 .i64 [fr, te] (Nat.zero_le _) (by simp))
  have hB1 : BookAt (w.alloc (.cells #[.int .i64 fr, .int .i64 te] 3)) p b q := hB.frame (fun k hk => Below.heap_alloc _ _ _ (hB.lt hk))
  by_cases hs : checkS owner [fr, te] = 0
  · have hce : changeErr b owner fr te = match b.acc owner with
      | none => 7
      | some a => if a.held < fr then 5 else if leftS b a < te - fr then 12 else 0 := by unfold changeErr; rw [if_neg (by simpa using hs)]
    cases ha : b.acc owner with
    | none => rw [ha, he] at hce; simp at hce
    | some a =>
      rw [ha, he] at hce
      simp only at hce
      obtain ⟨i, g, x, i1, i2, i3, i4, i5, i6⟩ := M_idx hB owner ha
      have hb := hok.accs x (List.mem_of_getElem? i1)
      rw [i2] at hb
      obtain ⟨f1, f2, f3⟩ := checkS_two hs
      have hg1 : (w.alloc (.cells #[.int .i64 fr, .int .i64 te] 3)).heap[g]? = some (accCells a) := blk_alloc i6 _
      have hc1 : (w.alloc (.cells #[.int .i64 fr, .int .i64 te] 3)).cell? ⟨g, 1, none⟩ = some (.int .i64 a.held) := by rw [blk_cell hg1]; rfl
      have HH := Aside0.mk (account_some hB1 owner _ 2 2 _ hr hs _ i5)
      have ht1 : b.total ≤ 10000000 := by have := hok.t1; have := hok.b1; omega
      have HLf := Aside0.mk (left p g b.budget b.total _ _ _ _ _ a _ hB1.head hg1 hb.1 hb.2.1 hb.2.2.1 hb.2.2.2 hok.t0 ht1 hok.b0 hok.b1)
      have h5 : ¬ a.held < fr := fun h => by rw [if_pos h] at hce; omega
      rw [if_neg h5] at hce
      have h12 : ¬ leftS b a < te - fr := fun h => by rw [if_pos h] at hce; omega
      have hd : decide (fr > a.held) = false := decide_eq_false h5
      have hd2 : decide (leftS b a < te - fr) = false := decide_eq_false h12
      have HLe : Hid (te - fr ≤ leftS b a) := Lib.hid (by omega)
      unfold leftS at hd2
      generalize mn (a.limit - (a.held + a.leased)) (b.budget - b.total) = L at HLf hd2
      subst i2
      have HHo := Aside0.mk (fun m => hold (w := (w.alloc (.cells #[.int .i64 fr, .int .i64 te] 3)).drewN m) (hB1.frame (fun k hk => rfl)) i4 i1 owner (te - fr) hb.1 (by omega) hok.t0 ht1 (by omega) (by omega))
      have HI := Aside0.mk (And.intro i1 i3)
      have HBB := Aside0.mk hB
      have HHl : Hid (fr ≤ x.2.held) := Lib.hid (by omega)
      clear hce he hs hr hB1 hB i1 i3 i4 i5 i6 hg1 hb h12 h5
      by_cases hft : fr = te
      · simp only [if_pos hft]
        have hdf : (fr != te) = false := by simp [hft]
        clear hft
        go_enter Try.func48, Try.ntmps48
        go_wp2_with (first | (go_at_call 37; refine HH.out.mono ?_; rintro e w' ⟨rfl, rfl⟩) | (go_at_call 43; refine HLf.out.mono ?_; rintro e w' ⟨rfl, m9, rfl⟩))
        go_ret
        exact ⟨rfl, i, x, HI.out.1, HI.out.2, rfl, HHl.out, HLe.out, leaves_same HBB.out (pw_below_drewN (below_alloc (Below.refl _ _) _) _)⟩
      · simp only [if_neg hft]
        have hdf : (fr != te) = true := by simp [hft]
        clear hft
        go_enter Try.func48, Try.ntmps48
        go_wp2_with (first | (go_at_call 37; refine HH.out.mono ?_; rintro e w' ⟨rfl, rfl⟩) | (go_at_call 43; refine HLf.out.mono ?_; rintro e w' ⟨rfl, m9, rfl⟩))
        refine (HHo.out _).mono ?_
        rintro e w3 ⟨rfl, hlv⟩
        have HLV := Aside0.mk (leaves_then HBB.out (pw_below_drewN (below_alloc (Below.refl _ _) _) _) hlv)
        clear hlv
        go_wp2_with fail
        go_ret
        exact ⟨rfl, i, x, HI.out.1, HI.out.2, rfl, HHl.out, HLe.out, HLV.out⟩
  · exfalso
    unfold changeErr at he
    rw [if_pos hs] at he
    exact hs he

theorem sum_modify (l : List (Int × Acc)) (i : Nat) (n : Int) {x : Int × Acc} (hx : l[i]? = some x) :
    ((l.modify i (fun x => (x.1, { x.2 with held := x.2.held + n }))).map fun x => x.2.held + x.2.leased).sum = (l.map fun x => x.2.held + x.2.leased).sum + n := by
  induction l generalizing i with
  | nil => simp at hx
  | cons a l ih =>
    cases i with
    | zero => simp; omega
    | succ i =>
      have := ih i (by simpa using hx)
      simp only [List.modify_succ_cons, List.map_cons, List.sum_cons, this]
      omega
theorem sum_nonneg (l : List (Int × Acc)) (h : ∀ x ∈ l, 0 ≤ x.2.held ∧ 0 ≤ x.2.leased) : 0 ≤ (l.map fun x => x.2.held + x.2.leased).sum := by
  induction l with
  | nil => simp
  | cons a l ih =>
    have h1 := h a (by simp)
    have h2 := ih (fun x hx => h x (by simp [hx]))
    simp only [List.map_cons, List.sum_cons]
    omega
theorem hold_OK {b : BookS} (hok : b.OK) {i : Nat} {x : Int × Acc} (hx : b.accs[i]? = some x) (owner n : Int) (h1 : 0 ≤ x.2.held + n) (h2 : n ≤ leftS b x.2) : (b.hold i owner n).OK := by
  have ha : ∀ y ∈ (b.accs.modify i (fun x => (x.1, { x.2 with held := x.2.held + n }))), 0 ≤ y.2.held ∧ 0 ≤ y.2.leased ∧ y.2.held + y.2.leased ≤ y.2.limit ∧ y.2.limit ≤ 10000000 := by
    intro y hy
    obtain ⟨j, hj⟩ := List.getElem?_of_mem hy
    rw [List.getElem?_modify] at hj
    by_cases hij : i = j
    · subst hij
      rw [hx] at hj
      have h3 := hok.accs x (List.mem_of_getElem? hx)
      have : y = (x.1, { x.2 with held := x.2.held + n }) := by simpa using hj.symm
      subst this
      unfold leftS mn at h2
      simp only
      split at h2 <;> omega
    · have hj' : b.accs[j]? = some y := by simpa [hij] using hj
      exact hok.accs y (List.mem_of_getElem? hj')
  have hs := sum_modify b.accs i n hx
  have hsum : b.total + n = ((b.accs.modify i (fun x => (x.1, { x.2 with held := x.2.held + n }))).map fun x => x.2.held + x.2.leased).sum := by rw [hs, hok.sum]
  refine ⟨hok.b0, hok.b1, ?_, ?_, ha, hsum⟩
  · show 0 ≤ b.total + n
    rw [hsum]
    exact sum_nonneg _ (fun y hy => ⟨(ha y hy).1, (ha y hy).2.1⟩)
  · show b.total + n ≤ b.budget
    unfold leftS mn at h2
    split at h2 <;> omega
end Go.Proofs.Ytmellidlnggldaa.Book
