/- The book: Take, Give and Change. -/
import Derived.Test.YticbjaclnneaoaaBook3
namespace Go.Proofs.Yticbjaclnneaoaa.Book
set_option linter.unusedVariables false
open Go.RowKit Go.Proofs.YticbjaclnneaoaaW.PrintWords Go.Proofs.YticbjaclnneaoaaW.PrintLast Go.Proofs.YticbjaclnneaoaaW.PrintMore Go.Proofs.Yticbjaclnneaoaa.MapInt
set_option linter.unusedSimpArgs false

/-- The numbers of a book are in their bounds. -/
structure BookS.OK (b : BookS) : Prop where
  b0 : 0 ≤ b.budget
  b1 : b.budget ≤ 10000000
  t0 : 0 ≤ b.total
  t1 : b.total ≤ b.budget
  accs : ∀ x ∈ b.accs, 0 ≤ x.2.held ∧ 0 ≤ x.2.leased ∧ x.2.held + x.2.leased ≤ x.2.limit ∧ x.2.limit ≤ 10000000
  sum : b.total = (b.accs.map fun x => x.2.held + x.2.leased).sum

theorem M_idx {w : World} {p : Nat} {b : BookS} {q : Parts} (hB : BookAt w p b q) (owner : Int) {a : Acc} (h : b.acc owner = some a) :
    ∃ (i g : Nat) (x : Int × Acc), b.accs[i]? = some x ∧ x.2 = a ∧ x.1 = owner ∧ q.gs[i]? = some g ∧ mget (q.M b) owner = some (.pointer (some ⟨g, 0, none⟩)) ∧ w.heap[g]? = some (accCells a) := by
  have hl := hB.len
  have hb := hB.boxes
  unfold BookS.acc at h
  unfold Parts.M
  generalize b.accs = l at *
  generalize q.gs = gs at *
  induction l generalizing gs with
  | nil => simp at h
  | cons c l ih =>
    cases gs with
    | nil => simp at hl
    | cons g gs =>
      obtain ⟨c', hc', hg⟩ := hb 0 g rfl
      obtain rfl : c = c' := by simpa using hc'
      by_cases ho : owner = c.1
      · have ha : c.2 = a := by simpa [ho] using h
        refine ⟨0, g, c, rfl, ha, ho.symm, rfl, ?_, by rw [← ha]; exact hg⟩
        simp [mget, ho]
      · have ho' : ¬ c.1 = owner := fun e => ho e.symm
        obtain ⟨i, g', x, h1, h2, h3, h4, h5, h6⟩ := ih (by simpa [ho'] using h) gs (by simpa using hl) (fun i k hk => hb (i + 1) k (by simpa using hk))
        exact ⟨i + 1, g', x, by simpa using h1, h2, h3, by simpa using h4, by simpa [mget, ho] using h5, h6⟩

/-- The error of Change. -/
def changeErr (b : BookS) (owner fr te : Int) : Int :=
  if checkS owner [fr, te] ≠ 0 then checkS owner [fr, te] else match b.acc owner with
    | none => 7
    | some a => if a.held < fr then 5 else if leftS b a < te - fr then 12 else 0

theorem checkS_two {owner x y : Int} (h : checkS owner [x, y] = 0) : (1 ≤ owner ∧ owner ≤ 40) ∧ (0 ≤ x ∧ x ≤ 10000000) ∧ (0 ≤ y ∧ y ≤ 10000000) := by
  unfold checkS at h
  split at h
  · rename_i h1
    split at h
    · rename_i h2
      exact ⟨h1, h2 x (by simp), h2 y (by simp)⟩
    · omega
  · omega

/-- What a call of the book's leaves: a book, and all else. -/
def Leaves (w w' : World) (p : Nat) (q : Parts) (b' : BookS) : Prop := ∃ q', BookAt w' p b' q' ∧ Upd (q.Foot p) w w' ∧ (∀ k, q'.Foot p k → q.Foot p k ∨ w.heap.size ≤ k)
theorem leaves_same {w w' : World} {p : Nat} {b : BookS} {q : Parts} (hB : BookAt w p b q) (hb : Below w.heap.size w w') : Leaves w w' p q b :=
  ⟨q, hB.frame (fun k hk => hb.block k (hB.lt hk)), Upd.of_below hb, fun k hk => .inl hk⟩
theorem leaves_then {w W w' : World} {p : Nat} {b b' : BookS} {q : Parts} (hB : BookAt w p b q) (hb : Below w.heap.size w W) (h : ∃ q', BookAt w' p b' q' ∧ Upd (q.Foot p) W w' ∧ (∀ k, q'.Foot p k → q.Foot p k ∨ W.heap.size ≤ k)) : Leaves w w' p q b' := by
  obtain ⟨q', h1, h2, h3⟩ := h
  exact ⟨q', h1, (Upd.of_below hb).then h2 (fun k hk => .inl hk), fun k hk => (h3 k hk).imp id (Nat.le_trans hb.size)⟩

/-- A book whose account number i holds n more. -/
def BookS.hold (b : BookS) (i : Nat) (owner n : Int) : BookS := b.put i n (if 0 ≤ n then 3 else 4) owner (if 0 ≤ n then n else -n)

theorem sum_modify (l : List (Int × Acc)) (i : Nat) (n : Int) {x : Int × Acc} (hx : l[i]? = some x) :
    ((l.modify i (fun x => (x.1, { x.2 with held := x.2.held + n }))).map fun x => x.2.held + x.2.leased).sum = (l.map fun x => x.2.held + x.2.leased).sum + n := by
  induction l generalizing i with
  | nil => simp at hx
  | cons a l ih =>
    cases i with
    | zero => simp; omega
    | succ i =>
      have := ih i (by simpa using hx)
      simp only [List.modify_succ_cons, List.map_cons, List.sum_cons, this]
      omega
theorem sum_nonneg (l : List (Int × Acc)) (h : ∀ x ∈ l, 0 ≤ x.2.held ∧ 0 ≤ x.2.leased) : 0 ≤ (l.map fun x => x.2.held + x.2.leased).sum := by
  induction l with
  | nil => simp
  | cons a l ih =>
    have h1 := h a (by simp)
    have h2 := ih (fun x hx => h x (by simp [hx]))
    simp only [List.map_cons, List.sum_cons]
    omega
theorem hold_OK {b : BookS} (hok : b.OK) {i : Nat} {x : Int × Acc} (hx : b.accs[i]? = some x) (owner n : Int) (h1 : 0 ≤ x.2.held + n) (h2 : n ≤ leftS b x.2) : (b.hold i owner n).OK := by
  have ha : ∀ y ∈ (b.accs.modify i (fun x => (x.1, { x.2 with held := x.2.held + n }))), 0 ≤ y.2.held ∧ 0 ≤ y.2.leased ∧ y.2.held + y.2.leased ≤ y.2.limit ∧ y.2.limit ≤ 10000000 := by
    intro y hy
    obtain ⟨j, hj⟩ := List.getElem?_of_mem hy
    rw [List.getElem?_modify] at hj
    by_cases hij : i = j
    · subst hij
      rw [hx] at hj
      have h3 := hok.accs x (List.mem_of_getElem? hx)
      have : y = (x.1, { x.2 with held := x.2.held + n }) := by simpa using hj.symm
      subst this
      unfold leftS mn at h2
      simp only
      split at h2 <;> omega
    · have hj' : b.accs[j]? = some y := by simpa [hij] using hj
      exact hok.accs y (List.mem_of_getElem? hj')
  have hs := sum_modify b.accs i n hx
  have hsum : b.total + n = ((b.accs.modify i (fun x => (x.1, { x.2 with held := x.2.held + n }))).map fun x => x.2.held + x.2.leased).sum := by rw [hs, hok.sum]
  refine ⟨hok.b0, hok.b1, ?_, ?_, ha, hsum⟩
  · show 0 ≤ b.total + n
    rw [hsum]
    exact sum_nonneg _ (fun y hy => ⟨(ha y hy).1, (ha y hy).2.1⟩)
  · show b.total + n ≤ b.budget
    unfold leftS mn at h2
    split at h2 <;> omega
end Go.Proofs.Yticbjaclnneaoaa.Book
