/- TopRing: what the law's loop keeps. -/
import Derived.Test.YtmellidlnggldaaPushS
import Derived.Test.YtmellidlnggldaaBuf
import Derived.Test.YtmellidlnggldaaRing5
namespace Go.Proofs.Ytmellidlnggldaa.Ring
set_option linter.unusedVariables false
open Go.RowKit Go.Proofs.YtmellidlnggldaaW.PrintWords Go.Proofs.YtmellidlnggldaaW.PrintLast Go.Proofs.YtmellidlnggldaaW.PrintMore Go.Proofs.Ytmellidlnggldaa.Book Go.Proofs.Ytmellidlnggldaa.Oct Go.Proofs.Ytmellidlnggldaa.Pure
set_option linter.unusedSimpArgs false

/-- Who has a block of octets: the ring, the queue, the two slices, the octets that are handed in. -/
def Owns (MA : Option Addr) (qa : Nat) (qv : Value) (cs : List Chk) (iv jv : Value) (og : Option Nat) : Nat → Nat → Prop
  | 0, j => MA = some ⟨j, 0, none⟩
  | 1, j => QFoot qa qv cs j
  | 2, j => some j = iv.ownBlock
  | 3, j => some j = jv.ownBlock
  | 4, j => og = some j
  | _, _ => False
def Apart (O : Nat → Nat → Prop) : Prop := ∀ a b j, O a j → O b j → a = b
/-- One of them gets another block, a new one. -/
theorem Apart.step {O O' : Nat → Nat → Prop} (h : Apart O) (N a : Nat) (hO : ∀ b j, O b j → j < N) (hs : ∀ b j, b ≠ a → O' b j → O b j) (ha : ∀ j, O' a j → O a j ∨ N ≤ j) : Apart O' := by
  intro x y j hx hy
  by_cases hxa : x = a
  · by_cases hya : y = a
    · rw [hxa, hya]
    · have h1 := hs y j hya hy
      rw [hxa] at hx
      rcases ha j hx with h2 | h2
      · rw [hxa]; exact h a y j h2 h1
      · have := hO y j h1; omega
  · have h1 := hs x j hxa hx
    by_cases hya : y = a
    · rw [hya] at hy
      rcases ha j hy with h2 | h2
      · rw [hya]; exact h x a j h1 h2
      · have := hO x j h1; omega
    · exact h x y j h1 (hs y j hya hy)

structure TopRel (w wr : World) (r p qa : Nat) (k s m size : Int) (MA : Option Addr) (c start : Nat) (ys xs : List Int) (qv : Value) (cs : List Chk) (b : BookS) (q : Parts) (iv : Value) (xr : List Int) (jv : Value) (xq : List Int) (og : Option Nat) (os : List Int) : Prop where
  ring : RingAt wr r p 1 k s m MA c start ys xs
  queue : QueueAt wr qa p 1 k s m size qv cs
  book : BookAt wr p b q
  one : One b ((c : Int) + (qroom cs : Int))
  full : c + qroom cs ≤ 10000000
  inR : Buf wr w.heap.size iv xr
  inQ : Buf wr w.heap.size jv xq
  oct : ∀ g, og = some g → Row wr g os ∧ w.heap.size ≤ g
  below : Below w.heap.size w wr
  young : ∀ j, (j = r ∨ MA = some ⟨j, 0, none⟩ ∨ QFoot qa qv cs j ∨ q.Foot p j) → w.heap.size ≤ j
  apart : Apart (Owns MA qa qv cs iv jv og)

section
variable {w wr w1 : World} {r p qa : Nat} {k s m size : Int} {MA MA' : Option Addr} {c start c' start' : Nat} {ys xs ys' xs' xr' xq' : List Int} {qv qv' : Value} {cs ks : List Chk} {b b' : BookS} {q q' : Parts} {iv jv iv' jv' : Value} {xr xq os os' : List Int} {og og' : Option Nat}
theorem TopRel.ok (h : TopRel w wr r p qa k s m size MA c start ys xs qv cs b q iv xr jv xq og os) : b.OK := h.one.ok (by omega) (by have := h.full; omega)
theorem TopRel.row (h : TopRel w wr r p qa k s m size MA c start ys xs qv cs b q iv xr jv xq og os) {a j : Nat} (ha : a ≠ 1) (hj : Owns MA qa qv cs iv jv og a j) : ∃ zs, Row wr j zs := by
  match a, ha, hj with
  | 0, _, hj => exact ⟨_, h.ring.mem_lt hj⟩
  | 2, _, hj => exact h.inR.octets hj
  | 3, _, hj => exact h.inQ.octets hj
  | 4, _, hj => exact ⟨_, (h.oct j hj).1⟩
theorem row_type {w : World} {j : Nat} {zs : List Int} (h : Row w j zs) {cs : Array Value} {t : TypeId} (hb : w.heap[j]? = some (.cells cs t)) : t = 5 := by
  unfold Row at h
  rw [hb] at h
  injection h with h
  injection h
/-- A block of octets is none of the others. -/
theorem TopRel.free (h : TopRel w wr r p qa k s m size MA c start ys xs qv cs b q iv xr jv xq og os) {a j : Nat} (ha : a ≠ 1) (hj : Owns MA qa qv cs iv jv og a j) : j ≠ r ∧ ¬ QFoot qa qv cs j ∧ ¬ q.Foot p j ∧ j < wr.heap.size := by
  obtain ⟨zs, hz⟩ := h.row ha hj
  refine ⟨fun e => ?_, fun e => ha (h.apart a 1 j hj e), row_foot h.book hz, hz.lt⟩
  subst e
  have := row_type hz h.ring.head
  exact absurd this (by decide)
theorem TopRel.lt (h : TopRel w wr r p qa k s m size MA c start ys xs qv cs b q iv xr jv xq og os) : ∀ a j, Owns MA qa qv cs iv jv og a j → j < wr.heap.size := fun a j hj => by
  by_cases ha : a = 1
  · subst ha; exact h.queue.lt hj
  · exact (h.free ha hj).2.2.2
theorem TopRel.r_queue (h : TopRel w wr r p qa k s m size MA c start ys xs qv cs b q iv xr jv xq og os) : ¬ QFoot qa qv cs r := by
  rintro (e | e | e)
  · have h1 := h.ring.head
    rw [e, h.queue.head] at h1
    unfold queueCells ringCells at h1
    injection h1 with h1
    injection h1 with _ h1 _
    exact absurd h1 (by decide)
  · exact own_not h.queue.own h.ring.head (by decide) e
  · obtain ⟨x, hx, rfl⟩ := List.mem_map.1 e
    have := row_type (h.queue.rows x hx) h.ring.head
    exact absurd this (by decide)

theorem TopRel.keepR (h : TopRel w wr r p qa k s m size MA c start ys xs qv cs b q iv xr jv xq og os) {S : Nat → Prop} (hu : Upd S wr w1) (h1 : ¬ S r) (h2 : ∀ j, MA = some ⟨j, 0, none⟩ → ¬ S j) : RingAt w1 r p 1 k s m MA c start ys xs :=
  h.ring.frame (hu.block _ h.ring.lt h1) (fun mb e => hu.block _ (h.ring.mem_lt e).lt (h2 mb e))
theorem TopRel.keepO (h : TopRel w wr r p qa k s m size MA c start ys xs qv cs b q iv xr jv xq og os) {S : Nat → Prop} (hu : Upd S wr w1) (h1 : ∀ j, og = some j → ¬ S j) : ∀ g, og = some g → Row w1 g os ∧ w.heap.size ≤ g := fun g e => ⟨(h.oct g e).1.upd hu (h1 g e), (h.oct g e).2⟩
theorem TopRel.keepB (h : TopRel w wr r p qa k s m size MA c start ys xs qv cs b q iv xr jv xq og os) {S : Nat → Prop} (hu : Upd S wr w1) (h1 : ∀ j, q.Foot p j → ¬ S j) : BookAt w1 p b q := h.book.frame (fun j hj => hu.block j (h.book.lt hj) (h1 j hj))
theorem TopRel.keepW (h : TopRel w wr r p qa k s m size MA c start ys xs qv cs b q iv xr jv xq og os) {S : Nat → Prop} (hu : Upd S wr w1) (h1 : ∀ j, S j → w.heap.size ≤ j) : Below w.heap.size w w1 := h.below.trans (hu.below h.below.size h1)

/-- Behind a Write. -/
theorem TopRel.wrote {mv : Bool} {err : Int} (h : TopRel w wr r p qa k s m size MA c start ys xs qv cs b q iv xr jv xq og os) (hw : Written wr w1 r p 1 k s m MA c start ys xs os' b q mv err MA' c' start' ys' b' q') :
    TopRel w w1 r p qa k s m size MA' c' start' ys' (if err = 0 then xs ++ os' else xs) qv cs b' q' iv xr jv xq og os := by
  have hsz := h.below.size
  have hs1 := hw.upd.size
  have hone : One b' ((c' : Int) + (qroom cs : Int)) := by
    cases mv with
    | false =>
      obtain ⟨_, h2, _, h4⟩ := hw.same rfl
      rw [h2, h4]; exact h.one
    | true =>
      obtain ⟨_, _, _, i, x, i1, _, i3⟩ := hw.moved rfl
      obtain ⟨rfl, _⟩ := h.one.only i1
      rw [i3]
      have := h.one.hold 1 ((c' : Int) - c)
      have e : (c : Int) + (qroom cs : Int) + ((c' : Int) - c) = (c' : Int) + (qroom cs : Int) := by omega
      rw [e] at this
      exact this
  have oct : ∀ a j, a ≠ 0 → Owns MA qa qv cs iv jv og a j → ¬ (j = r ∨ MA = some ⟨j, 0, none⟩ ∨ q.Foot p j) := fun a j ha hj => by
    rintro (e | e | e)
    · by_cases h1 : a = 1
      · subst h1; exact h.r_queue (e ▸ hj)
      · exact (h.free h1 hj).1 e
    · exact ha (h.apart a 0 j hj e)
    · by_cases h1 : a = 1
      · subst h1; exact h.queue.not_book h.book hj e
      · exact (h.free h1 hj).2.2.1 e
  have hmem : ∀ j, MA' = some ⟨j, 0, none⟩ → MA = some ⟨j, 0, none⟩ ∨ wr.heap.size ≤ j := fun j hj => by
    cases mv with
    | false => exact .inl ((hw.same rfl).1.symm.trans hj)
    | true =>
      obtain ⟨g, e1, h1⟩ := (hw.moved rfl).2.2.1
      rw [e1] at hj
      injection hj with hj
      injection hj with hj
      exact .inr (by omega)
  refine ⟨hw.ring, ?_, hw.book, hone, ?_, h.inR.upd hw.upd (fun j hj => oct 2 j (by decide) hj), h.inQ.upd hw.upd (fun j hj => oct 3 j (by decide) hj), h.keepO hw.upd (fun j hj => oct 4 j (by decide) hj), ?_, ?_, ?_⟩
  · exact h.queue.upd hw.upd (fun j hj => oct 1 j (by decide) hj)
  · have h1 := hw.ok.t1
    rw [hone.total] at h1
    have h2 := hone.budget
    omega
  · refine h.keepW hw.upd (fun j hj => h.young j ?_)
    rcases hj with e | e | e
    · exact .inl e
    · exact .inr (.inl e)
    · exact .inr (.inr (.inr e))
  · rintro j (e | e | e | e)
    · exact h.young j (.inl e)
    · rcases hmem j e with e | e
      · exact h.young j (.inr (.inl e))
      · omega
    · exact h.young j (.inr (.inr (.inl e)))
    · rcases hw.foot j e with e | e
      · exact h.young j (.inr (.inr (.inr e)))
      · omega
  · exact h.apart.step wr.heap.size 0 h.lt (fun b j hb hj => by match b, hj with | 0, _ => exact absurd rfl hb | 1, hj => exact hj | 2, hj => exact hj | 3, hj => exact hj | 4, hj => exact hj) hmem

/-- Behind an append to the first slice. -/
theorem TopRel.grewR (h : TopRel w wr r p qa k s m size MA c start ys xs qv cs b q iv xr jv xq og os) (hb : Buf w1 w.heap.size iv' (xr ++ os')) (hu : Upd (fun j => some j = iv.ownBlock) wr w1) (hn : ∀ j, some j = iv'.ownBlock → some j = iv.ownBlock ∨ wr.heap.size ≤ j) :
    TopRel w w1 r p qa k s m size MA c start ys xs qv cs b q iv' (xr ++ os') jv xq og os := by
  have oct : ∀ a j, a ≠ 2 → Owns MA qa qv cs iv jv og a j → ¬ some j = iv.ownBlock := fun a j ha hj e => ha (h.apart a 2 j hj e)
  refine ⟨h.keepR hu (fun e => (h.free (a := 2) (by decide) e).1 rfl) (fun j hj => oct 0 j (by decide) hj), h.queue.upd hu (fun j hj => oct 1 j (by decide) hj), h.keepB hu (fun j hj e => (h.free (a := 2) (by decide) e).2.2.1 hj), h.one, h.full, hb, h.inQ.upd hu (fun j hj => oct 3 j (by decide) hj), h.keepO hu (fun j hj => oct 4 j (by decide) hj), h.keepW hu (fun j hj => (h.inR.lt hj).1), h.young, ?_⟩
  exact h.apart.step wr.heap.size 2 h.lt (fun b j hb hj => by match b, hj with | 0, hj => exact hj | 1, hj => exact hj | 2, _ => exact absurd rfl hb | 3, hj => exact hj | 4, hj => exact hj) hn
/-- Behind an append to the second one. -/
theorem TopRel.grewQ (h : TopRel w wr r p qa k s m size MA c start ys xs qv cs b q iv xr jv xq og os) (hb : Buf w1 w.heap.size jv' (xq ++ os')) (hu : Upd (fun j => some j = jv.ownBlock) wr w1) (hn : ∀ j, some j = jv'.ownBlock → some j = jv.ownBlock ∨ wr.heap.size ≤ j) :
    TopRel w w1 r p qa k s m size MA c start ys xs qv cs b q iv xr jv' (xq ++ os') og os := by
  have oct : ∀ a j, a ≠ 3 → Owns MA qa qv cs iv jv og a j → ¬ some j = jv.ownBlock := fun a j ha hj e => ha (h.apart a 3 j hj e)
  refine ⟨h.keepR hu (fun e => (h.free (a := 3) (by decide) e).1 rfl) (fun j hj => oct 0 j (by decide) hj), h.queue.upd hu (fun j hj => oct 1 j (by decide) hj), h.keepB hu (fun j hj e => (h.free (a := 3) (by decide) e).2.2.1 hj), h.one, h.full, h.inR.upd hu (fun j hj => oct 2 j (by decide) hj), hb, h.keepO hu (fun j hj => oct 4 j (by decide) hj), h.keepW hu (fun j hj => (h.inQ.lt hj).1), h.young, ?_⟩
  exact h.apart.step wr.heap.size 3 h.lt (fun b j hb hj => by match b, hj with | 0, hj => exact hj | 1, hj => exact hj | 2, hj => exact hj | 3, _ => exact absurd rfl hb | 4, hj => exact hj) hn

/-- Where the queue and the book have changed. -/
theorem TopRel.queued (h : TopRel w wr r p qa k s m size MA c start ys xs qv cs b q iv xr jv xq og os) (hq : QueueAt w1 qa p 1 k s m size qv' ks) (hb : BookAt w1 p b' q') (hone : One b' ((c : Int) + (qroom ks : Int))) (hf : c + qroom ks ≤ 10000000) (hu : Upd (fun j => QFoot qa qv cs j ∨ q.Foot p j) wr w1) (hy : ∀ j, QFoot qa qv' ks j → QFoot qa qv cs j ∨ wr.heap.size ≤ j) (hft : ∀ j, q'.Foot p j → q.Foot p j ∨ wr.heap.size ≤ j) :
    TopRel w w1 r p qa k s m size MA c start ys xs qv' ks b' q' iv xr jv xq og os := by
  have hsz := h.below.size
  have oct : ∀ a j, a ≠ 1 → Owns MA qa qv cs iv jv og a j → ¬ (QFoot qa qv cs j ∨ q.Foot p j) := fun a j ha hj => by
    rintro (e | e)
    · exact ha (h.apart a 1 j hj e)
    · exact (h.free ha hj).2.2.1 e
  refine ⟨h.keepR hu (fun e => e.elim h.r_queue (h.ring.ring_foot h.book)) (fun j hj => oct 0 j (by decide) hj), hq, hb, hone, hf, h.inR.upd hu (fun j hj => oct 2 j (by decide) hj), h.inQ.upd hu (fun j hj => oct 3 j (by decide) hj), h.keepO hu (fun j hj => oct 4 j (by decide) hj), h.keepW hu (fun j hj => h.young j (hj.elim (fun e => .inr (.inr (.inl e))) (fun e => .inr (.inr (.inr e))))), ?_, ?_⟩
  · rintro j (e | e | e | e)
    · exact h.young j (.inl e)
    · exact h.young j (.inr (.inl e))
    · rcases hy j e with e | e
      · exact h.young j (.inr (.inr (.inl e)))
      · omega
    · rcases hft j e with e | e
      · exact h.young j (.inr (.inr (.inr e)))
      · omega
  · exact h.apart.step wr.heap.size 1 h.lt (fun b j hb hj => by match b, hj with | 0, hj => exact hj | 1, _ => exact absurd rfl hb | 2, hj => exact hj | 3, hj => exact hj | 4, hj => exact hj) hy
/-- Behind a Push. -/
theorem TopRel.pushed {err : Int} (h : TopRel w wr r p qa k s m size MA c start ys xs qv cs b q iv xr jv xq og os) (hp : Pushed wr w1 qa p 1 k s m size qv cs os' b q err qv' ks b' q') :
    TopRel w w1 r p qa k s m size MA c start ys xs qv' ks b' q' iv xr jv xq og os := by
  have h0 := h.full
  have hd : One b' ((c : Int) + (qroom ks : Int)) ∧ c + qroom ks ≤ 10000000 := by
    rcases hp.took with ⟨h1, h2⟩ | ⟨h1, i, x, i1, _, i3, i4⟩
    · rw [h1, h2]; exact ⟨h.one, h0⟩
    · obtain ⟨rfl, rfl⟩ := h.one.only i1
      rw [h.one.leftS _ rfl] at i3
      rw [i4]
      have := h.one.hold 1 ((qroom ks - qroom cs : Nat) : Int)
      have e : (c : Int) + (qroom cs : Int) + ((qroom ks - qroom cs : Nat) : Int) = (c : Int) + (qroom ks : Int) := by omega
      rw [e] at this
      exact ⟨this, by omega⟩
  exact h.queued hp.queue hp.book hd.1 hd.2 hp.upd hp.young hp.foot
/-- Behind a Pull. -/
theorem TopRel.pulled {n : Nat} {a : Acc} (h : TopRel w wr r p qa k s m size MA c start ys xs qv cs b q iv xr jv xq og os) (hp : Pulled wr w1 qa p 1 k s m size qv cs b q a n qv' ks b' q') :
    TopRel w w1 r p qa k s m size MA c start ys xs qv' ks b' q' iv xr jv xq og os := by
  have h0 := h.full
  have hd : One b' ((c : Int) + (qroom ks : Int)) ∧ c + qroom ks ≤ 10000000 := by
    rcases hp.gone with ⟨h1, h2⟩ | ⟨h1, i, x, i1, _, _, i4⟩
    · rw [h1, h2]; exact ⟨h.one, h0⟩
    · obtain ⟨rfl, _⟩ := h.one.only i1
      rw [i4]
      have := h.one.put (-((qroom cs - qroom ks : Nat) : Int)) 4 1 ((qroom cs - qroom ks : Nat) : Int)
      have e : (c : Int) + (qroom cs : Int) + (-((qroom cs - qroom ks : Nat) : Int)) = (c : Int) + (qroom ks : Int) := by omega
      rw [e] at this
      exact ⟨this, by omega⟩
  exact h.queued hp.queue hp.book hd.1 hd.2 hp.upd hp.young hp.foot
/-- Behind a Read. -/
theorem TopRel.read (h : TopRel w wr r p qa k s m size MA c start ys xs qv cs b q iv xr jv xq og os) (hr : RingAt w1 r p 1 k s m MA c start' ys' xs') (hu : Upd (fun j => j = r) wr w1) :
    TopRel w w1 r p qa k s m size MA c start' ys' xs' qv cs b q iv xr jv xq og os := by
  have oct : ∀ a j, Owns MA qa qv cs iv jv og a j → ¬ j = r := fun a j hj e => by
    by_cases ha : a = 1
    · subst ha; exact h.r_queue (e ▸ hj)
    · exact (h.free ha hj).1 e
  exact ⟨hr, h.queue.upd hu (fun j hj => oct 1 j hj), h.keepB hu (fun j hj e => h.ring.ring_foot h.book (e ▸ hj)), h.one, h.full, h.inR.upd hu (fun j hj => oct 2 j hj), h.inQ.upd hu (fun j hj => oct 3 j hj), h.keepO hu (fun j hj => oct 4 j hj), h.keepW hu (fun j hj => h.young j (.inl hj)), h.young, h.apart⟩
/-- The slices cut at their beginning. -/
theorem TopRel.cut (h : TopRel w wr r p qa k s m size MA c start ys xs qv cs b q iv xr jv xq og os) (h1 : Buf wr w.heap.size iv' xr') (e1 : iv'.ownBlock = iv.ownBlock) (h2 : Buf wr w.heap.size jv' xq') (e2 : jv'.ownBlock = jv.ownBlock) :
    TopRel w wr r p qa k s m size MA c start ys xs qv cs b q iv' xr' jv' xq' og os :=
  ⟨h.ring, h.queue, h.book, h.one, h.full, h1, h2, h.oct, h.below, h.young, fun x y j hx hy => h.apart x y j (by match x, hx with | 0, hx => exact hx | 1, hx => exact hx | 2, hx => exact (show some j = iv'.ownBlock from hx).trans e1 | 3, hx => exact (show some j = jv'.ownBlock from hx).trans e2 | 4, hx => exact hx) (by match y, hy with | 0, hx => exact hx | 1, hx => exact hx | 2, hx => exact (show some j = iv'.ownBlock from hx).trans e1 | 3, hx => exact (show some j = jv'.ownBlock from hx).trans e2 | 4, hx => exact hx)⟩
/-- Behind what changes nothing. -/
theorem TopRel.later (h : TopRel w wr r p qa k s m size MA c start ys xs qv cs b q iv xr jv xq og os) (hb : Below wr.heap.size wr w1) : TopRel w w1 r p qa k s m size MA c start ys xs qv cs b q iv xr jv xq og os :=
  ⟨h.ring.below hb, h.queue.below hb, h.book.frame (fun j hj => hb.block j (h.book.lt hj)), h.one, h.full, h.inR.below hb, h.inQ.below hb, fun g e => ⟨(h.oct g e).1.below hb, (h.oct g e).2⟩, below_then h.below h.below.size hb, h.young, h.apart⟩
/-- Octets that are made. -/
theorem TopRel.made (h : TopRel w wr r p qa k s m size MA c start ys xs qv cs b q iv xr jv xq og os) (hb : Below wr.heap.size wr w1) {g : Nat} (hg : wr.heap.size ≤ g) (hrow : Row w1 g os') : TopRel w w1 r p qa k s m size MA c start ys xs qv cs b q iv xr jv xq (some g) os' := by
  have h2 := h.later hb
  refine ⟨h2.ring, h2.queue, h2.book, h2.one, h2.full, h2.inR, h2.inQ, fun g' e => ?_, h2.below, h2.young, ?_⟩
  · obtain rfl := Option.some.inj e
    exact ⟨hrow, Nat.le_trans h.below.size hg⟩
  · exact h.apart.step wr.heap.size 4 h.lt (fun b j hb hj => by match b, hj with | 0, hj => exact hj | 1, hj => exact hj | 2, hj => exact hj | 3, hj => exact hj | 4, _ => exact absurd rfl hb) (fun j hj => .inr (by have := Option.some.inj (show some g = some j from hj); omega))
/-- A store into the octets that were made. -/
theorem TopRel.poke {g : Nat} (h : TopRel w wr r p qa k s m size MA c start ys xs qv cs b q iv xr jv xq (some g) os) (i : Nat) (x : Int) : TopRel w (wr.setCell ⟨g, i, none⟩ (.int .u8 x)) r p qa k s m size MA c start ys xs qv cs b q iv xr jv xq (some g) (os.set i x) := by
  have hu : Upd (fun j => j = g) wr (wr.setCell ⟨g, i, none⟩ (.int .u8 x)) := (Upd.refl (fun j => j = g) wr).setCell ⟨g, i, none⟩ (.inl rfl) _
  have oct : ∀ a j, a ≠ 4 → Owns MA qa qv cs iv jv (some g) a j → ¬ j = g := fun a j ha hj e => ha (h.apart a 4 j hj (by rw [e]; rfl))
  have hf := h.free (a := 4) (j := g) (by decide) rfl
  refine ⟨h.keepR hu (fun e => hf.1 e.symm) (fun j hj => oct 0 j (by decide) hj), h.queue.upd hu (fun j hj => oct 1 j (by decide) hj), h.keepB hu (fun j hj e => hf.2.2.1 (e ▸ hj)), h.one, h.full, h.inR.upd hu (fun j hj => oct 2 j (by decide) hj), h.inQ.upd hu (fun j hj => oct 3 j (by decide) hj), fun g' e => ?_, h.keepW hu (fun j hj => by rw [hj]; exact (h.oct g rfl).2), h.young, h.apart⟩
  obtain rfl := Option.some.inj e
  exact ⟨(h.oct g rfl).1.put i x, (h.oct g rfl).2⟩
/-- The octets that were made are nobody's any more. -/
theorem TopRel.forget (h : TopRel w wr r p qa k s m size MA c start ys xs qv cs b q iv xr jv xq og os) : TopRel w wr r p qa k s m size MA c start ys xs qv cs b q iv xr jv xq none [] :=
  ⟨h.ring, h.queue, h.book, h.one, h.full, h.inR, h.inQ, fun g e => (by cases e), h.below, h.young, fun x y j hx hy => h.apart x y j (by match x, hx with | 0, hx => exact hx | 1, hx => exact hx | 2, hx => exact hx | 3, hx => exact hx | 4, hx => cases hx) (by match y, hy with | 0, hx => exact hx | 1, hx => exact hx | 2, hx => exact hx | 3, hx => exact hx | 4, hx => cases hx)⟩
theorem TopRel.octs {g : Nat} (h : TopRel w wr r p qa k s m size MA c start ys xs qv cs b q iv xr jv xq (some g) os) (hl : os.length ≤ 1000000) : ReadsInt wr .u8 (some ⟨g, 0, none⟩) os.length os ∧ ∀ j u, (lits8 os)[j]? = some u → wr.cell? ((⟨g, 0, none⟩ : Addr).add j) = some u := by
  have hrow := (h.oct g rfl).1
  refine ⟨by have := hrow.reads_at 0 os.length (by omega) (by unfold maxLen; omega); simpa using this, fun j u hj => ?_⟩
  have hjl := (List.getElem?_eq_some_iff.1 hj).1
  rw [lits8_length] at hjl
  rw [add_zero', hrow.cell j hjl, ← hj, lits8_get os j hjl]
end
end Go.Proofs.Ytmellidlnggldaa.Ring
