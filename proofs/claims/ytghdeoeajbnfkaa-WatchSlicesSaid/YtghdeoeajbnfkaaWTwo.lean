/- Two rows that grow in one statement: of slices, and of cuts. -/
import Derived.Test.YtghdeoeajbnfkaaWCutsP
import Derived.Maps.AppendAt
namespace Go.Proofs.Ytghdeoeajbnfkaa.WSl
open Go.RowKit Go.Proofs.YtghdeoeajbnfkaaW.PrintWords Go.Proofs.YtghdeoeajbnfkaaW.PrintLast Go.Proofs.YtghdeoeajbnfkaaW.PrintMore Go.Proofs.Ytghdeoeajbnfkaa.WMem
set_option linter.unusedSimpArgs false
set_option linter.unusedVariables false

theorem infoCu : (Try.prog.info? 47).map (fun i => (i.zero, i.size, i.bytes)) = some (some (.agg #[(.int .i64 0), (.int .i64 0), (.int .i64 0)]), 3, 24) := by kernel_rfl

/-- The rows, from block w1.heap.size on; the box of the cut at hand at B. -/
structure Two (w1 W : World) (B : Nat) (cb : Array Value) (vo va : Value) (xs : List Sl) (ys : List Cu) : Prop where
  below : Below w1.heap.size w1 W
  box : W.heap[B]? = some (.cells cb 47)
  o : Kd.R slK 22 W w1.heap.size (fun k => w1.heap.size ≤ k) vo xs
  a : Kd.R cuK 47 W w1.heap.size (fun k => w1.heap.size ≤ k ∧ k ≠ B) va ys

theorem Two.alloc {w1 W : World} {B : Nat} {cb : Array Value} {vo va : Value} {xs : List Sl} {ys : List Cu} (h : Two w1 W B cb vo va xs ys) (ob : Obj) : Two w1 (W.alloc ob) B cb vo va xs ys :=
  ⟨below_alloc h.below ob, blk_alloc h.box ob, Kd.R_alloc h.o ob, Kd.R_alloc h.a ob⟩
theorem Two.drew {w1 W : World} {B : Nat} {cb : Array Value} {vo va : Value} {xs : List Sl} {ys : List Cu} (h : Two w1 W B cb vo va xs ys) : Two w1 W.drew B cb vo va xs ys :=
  ⟨h.below.drew, h.box, Kd.R_drew h.o, Kd.R_drew h.a⟩

theorem R_typed {α : Type} {d : Kd α} {e base : Nat} {W : World} {ok : Nat → Prop} {v : Value} {xs : List α} (h : d.R e W base ok v xs) (k : Nat) (hk : v.ownBlock = some k) : ∃ cells, W.heap[k]? = some (.cells cells e (0, 0)) := by
  obtain ⟨_, inner, ho, _⟩ := h
  exact own_typed ho k hk

theorem below_grown {B : Nat} {w1 W W1 : World} {row : Option Nat} (h : Below B w1 W) (hB : B ≤ w1.heap.size) (hg : W.grownBy W1 row) (hr : ∀ k, row = some k → B ≤ k) : Below B w1 W1 :=
  ⟨hg.os.trans h.os, hg.tape.trans h.tape, hg.output.trans h.output, Nat.le_trans h.size hg.size, fun k hk => by
    rw [hg.block k (by have := h.size; omega) (fun e => by have := hr k e.symm; omega)]
    exact h.block k hk⟩

/-- append of one element that lies in a block of its own. -/
theorem step_app {α : Type} (d : Kd α) {P : Program} {ops : Array Oper} {o : Oper} {a : Act} {W : World} {K : Act → World → Prop} {Q : Exit → Act → World → Prop} {E : Prop} (base : Nat)
    (hgd : o.guard = none) (s x : Operand) (t e : TypeId) (z : Value) (bytes : Nat) (ho : o.op = .call { callee := .builtin .append, args := #[s, x], argTypes := #[t, t] })
    (ht : P.underlying t = some (.slice e)) (hinfo : (P.info? e).map (fun i => (i.zero, i.size, i.bytes)) = some (some z, d.sz, bytes)) (hz : z.cells.size = d.sz) (hs0 : 0 < d.sz) (hb0 : 0 < bytes)
    (v : Value) (xs : List α) (p : α) (cs : List Value) (ok okp : Nat → Prop) (g0 : Nat) (hs : a.eval s = v) (hx : a.eval x = .slice (some ⟨g0, 0, none⟩) 1 1) (hsrc : W.heap[g0]? = some (.cells cs.toArray e)) (hp : d.M W base okp p cs) (hokp : ∀ k, okp k → ok k ∧ some k ≠ v.ownBlock) (hfresh : ∀ k, W.heap.size ≤ k → ok k)
    (HO : d.R e W base ok v xs) (hbase : base ≤ W.heap.size) (hl : (xs.length + 1) * bytes ≤ 140737488355328)
    (h : ∀ v1 w1, d.R e w1 base ok v1 (xs ++ [p]) → W.grownBy w1 v.ownBlock → (v1.ownBlock = v.ownBlock ∨ ∃ b, v1.ownBlock = some b ∧ W.heap.size ≤ b) → K (a.put o.dst v1) w1) :
    if Region.wanted o (yielded ops a.tmps) = true then Oper.wp P o a W K Q else E := by
  have hw : Region.wanted o (yielded ops a.tmps) = true := by simp [Region.wanted, hgd]
  rw [if_pos hw]
  obtain ⟨h0, inner, hown, hr⟩ := HO
  obtain ⟨i0, hi, hzz⟩ := Option.map_eq_some_iff.1 hinfo
  simp only [Prod.mk.injEq] at hzz
  obtain ⟨hz0, hz1, hz2⟩ := hzz
  have hlen : xs.length + 1 ≤ 140737488355328 := Nat.le_trans (Nat.le_mul_of_pos_right _ hb0) hl
  obtain ⟨v1, w1, hrun, hown1, hg1, _, hat⟩ := run_append_own_at (P := P) W base t o.type e i0 z d.sz bytes ht hi hz0 hz1 hz2 hz hs0 v xs.length inner hown ⟨g0, 0, none⟩ 1 1 cs (by rw [d.K_len (d.K_of_M hp)]; simp)
    (by simpa using World.news_of_block (cs := cs.toArray) (t := e) (fr := (0, 0)) hsrc) (d.K_one (d.K_of_M hp)) (by simp only [maxLen]; omega) hl hbase
  have hat' : v1.ownBlock = v.ownBlock ∨ ∃ b, v1.ownBlock = some b ∧ W.heap.size ≤ b := hat.elim .inl (fun e => .inr ⟨_, e, Nat.le_refl _⟩)
  unfold Oper.wp execOp
  simp only [ho, resolve, invoke, builtin, Sem.run_bind, Sem.run_pure, Result.andThen_ok, List.map_toArray, List.map_cons, List.map_nil, hs, hx, hrun]
  exact h v1 w1 (Kd.R_appended h0 hr hp hokp hfresh hown1 hg1 hat') hg1 hat'

theorem step_o {ops : Array Oper} {o : Oper} {a : Act} {W w1 : World} {K : Act → World → Prop} {Q : Exit → Act → World → Prop} {E : Prop} {B : Nat} {cb : Array Value} {va : Value} {xs : List Sl} {ys : List Cu}
    (hgd : o.guard = none) (s x : Operand) (ho : o.op = .call { callee := .builtin .append, args := #[s, x], argTypes := #[31, 31] })
    (vo : Value) (g0 : Nat) (p : Sl) (pv : Value) (hpv : p.val = pv) (hs : a.eval s = vo) (hx : a.eval x = .slice (some ⟨g0, 0, none⟩) 1 1) (hsrc : W.heap[g0]? = some (.cells #[pv] 22)) (HT : Two w1 W B cb vo va xs ys) (hl : xs.length ≤ 1000000)
    (h : ∀ v1 W1, Two w1 W1 B cb v1 va (xs ++ [p]) ys → (∀ (g : Nat) (cs : Array Value), W.heap[g]? = some (.cells cs 47) → W1.heap[g]? = some (.cells cs 47)) → K (a.put o.dst v1) W1) :
    if Region.wanted o (yielded ops a.tmps) = true then Oper.wp Try.prog o a W K Q else E := by
  subst hpv
  refine step_app slK w1.heap.size hgd s x 31 22 (.slice none 0 0) 24 ho Try.underlying31 info22 rfl (by decide) (by omega) vo xs p [p.val] _ (fun _ => False) g0 hs hx hsrc rfl (fun k hk => hk.elim) (fun k hk => Nat.le_trans HT.below.size hk) HT.o HT.below.size (by omega) ?_
  intro v1 W1 hR hg hat
  have hne : ∀ (k : Nat) (cs : Array Value), W.heap[k]? = some (.cells cs 47) → vo.ownBlock ≠ some k := fun k cs hk e => by
    obtain ⟨cells, hc⟩ := R_typed HT.o k e
    rw [hk] at hc
    injection hc with hc
    injection hc with _ hc _
    exact absurd hc (by decide)
  have hkeep : ∀ (g : Nat) (cs : Array Value), W.heap[g]? = some (.cells cs 47) → W1.heap[g]? = some (.cells cs 47) := fun k cs hk => by
    rw [hg.block k (Array.getElem?_eq_some_iff.1 hk).1 (fun e => hne k cs hk e.symm)]
    exact hk
  refine h v1 W1 ⟨below_grown HT.below (Nat.le_refl _) hg (fun k hk => HT.o.1 k hk), hkeep _ _ HT.box, hR, Kd.R_grown2 HT.a rfl hg (fun k hk e => ?_)⟩ hkeep
  obtain ⟨cells, hc⟩ := R_typed HT.a k e.symm
  exact hne k cells hc hk

theorem step_a {ops : Array Oper} {o : Oper} {a : Act} {W w1 : World} {K : Act → World → Prop} {Q : Exit → Act → World → Prop} {E : Prop} {B : Nat} {cb : Array Value} {vo : Value} {xs : List Sl} {ys : List Cu}
    (hgd : o.guard = none) (s x : Operand) (ho : o.op = .call { callee := .builtin .append, args := #[s, x], argTypes := #[41, 41] })
    (va : Value) (g0 : Nat) (p : Cu) (hs : a.eval s = va) (hx : a.eval x = .slice (some ⟨g0, 0, none⟩) 1 1) (hsrc : W.heap[g0]? = some (.cells #[.int .i64 p.m, .int .i64 p.f, .int .i64 p.t] 47)) (HT : Two w1 W B cb vo va xs ys) (hl : ys.length ≤ 1000000)
    (h : ∀ v1 W1, Two w1 W1 B cb vo v1 xs (ys ++ [p]) → (∀ (g : Nat) (cs : Array Value), W.heap[g]? = some (.cells cs 22) → W1.heap[g]? = some (.cells cs 22)) → K (a.put o.dst v1) W1) :
    if Region.wanted o (yielded ops a.tmps) = true then Oper.wp Try.prog o a W K Q else E := by
  have hBlt : B < W.heap.size := (Array.getElem?_eq_some_iff.1 HT.box).1
  refine step_app cuK w1.heap.size hgd s x 41 47 (.agg #[(.int .i64 0), (.int .i64 0), (.int .i64 0)]) 24 ho Try.underlying41 infoCu rfl (by decide) (by omega) va ys p p.vals _ (fun _ => False) g0 hs hx hsrc rfl (fun k hk => hk.elim) (fun k hk => ⟨Nat.le_trans HT.below.size hk, by omega⟩) HT.a HT.below.size (by omega) ?_
  intro v1 W1 hR hg hat
  have hne : ∀ (k : Nat) (cs : Array Value), W.heap[k]? = some (.cells cs 22) → va.ownBlock ≠ some k := fun k cs hk e => by
    obtain ⟨cells, hc⟩ := R_typed HT.a k e
    rw [hk] at hc
    injection hc with hc
    injection hc with _ hc _
    exact absurd hc (by decide)
  have hkeep : ∀ (g : Nat) (cs : Array Value), W.heap[g]? = some (.cells cs 22) → W1.heap[g]? = some (.cells cs 22) := fun k cs hk => by
    rw [hg.block k (Array.getElem?_eq_some_iff.1 hk).1 (fun e => hne k cs hk e.symm)]
    exact hk
  have hbox : W1.heap[B]? = some (.cells cb 47) := by
    rw [hg.block B hBlt (fun e => (HT.a.1 B e.symm).2 rfl)]
    exact HT.box
  refine h v1 W1 ⟨below_grown HT.below (Nat.le_refl _) hg (fun k hk => (HT.a.1 k hk).1), hbox, Kd.R_grown2 HT.o rfl hg (fun k hk e => ?_), hR⟩ hkeep
  obtain ⟨cells, hc⟩ := R_typed HT.o k e.symm
  exact hne k cells hc hk

/-- What region 23 reads. -/
theorem Two.cells {w w1 W : World} {B g : Nat} {mm : Nat → Nat} {vo va : Value} {xs : List Sl} {ys : List Cu} {m f t : Int} {m0 : Nat} (h : Two w1 W B #[.int .i64 m, .int .i64 f, .int .i64 t] vo va xs ys) (hm : Mems w w1 g mm) (h0 : m0 < 3) :
    W.cell? ⟨B, 0, none⟩ = some (.int .i64 m) ∧ W.cell? ⟨B, 1, none⟩ = some (.int .i64 f) ∧ W.cell? ⟨B, 2, none⟩ = some (.int .i64 t) ∧ W.cell? ⟨g, m0, none⟩ = some (.slice (some ⟨mm m0, 0, none⟩) 60 60) :=
  ⟨by rw [blk_cell h.box]; rfl, by rw [blk_cell h.box]; rfl, by rw [blk_cell h.box]; rfl, (h.below.cell (p := ⟨g, m0, none⟩) hm.newg.2).trans (hm.hdr m0 h0)⟩

theorem two_new (w : World) (A B : Obj) : ((w.alloc A).alloc B).heap[w.heap.size + 1]? = some B := by
  have h := blk_new (w.alloc A) B
  have e : (w.alloc A).heap.size = w.heap.size + 1 := by simp
  rwa [e] at h
theorem two_first (w : World) (A B : Obj) : ((w.alloc A).alloc B).heap[w.heap.size]? = some A := by
  rw [Below.heap_alloc _ B _ (by simp)]
  exact heap_alloc_new w A

end Go.Proofs.Ytghdeoeajbnfkaa.WSl
