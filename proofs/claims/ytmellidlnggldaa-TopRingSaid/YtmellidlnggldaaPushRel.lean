/- Queues: what the loop of Push keeps. -/
import Derived.Test.YtmellidlnggldaaRoundAny
namespace Go.Proofs.Ytmellidlnggldaa.Ring
set_option linter.unusedVariables false
open Go.RowKit Go.Proofs.YtmellidlnggldaaW.PrintWords Go.Proofs.YtmellidlnggldaaW.PrintLast Go.Proofs.YtmellidlnggldaaW.PrintMore Go.Proofs.Ytmellidlnggldaa.Book Go.Proofs.Ytmellidlnggldaa.Oct Go.Proofs.Ytmellidlnggldaa.Pure
set_option linter.unusedSimpArgs false

/-- A queue in memory, whatever its length. -/
structure QPre (w : World) (qa p : Nat) (o k s m size : Int) (qv : Value) (cs : List Chk) : Prop where
  head : w.heap[qa]? = some (queueCells p o k s m size false qv)
  own : w.ownsRow 0 73 3 qv cs.length (qcells cs)
  rows : ∀ c ∈ cs, Row w c.g c.ys
  fits : ∀ c ∈ cs, c.frm ≤ c.tt ∧ c.tt ≤ c.ys.length ∧ c.ys.length ≤ 100000
  same : ∀ c ∈ cs, (c.ys.length : Int) = (rgGrow k s m 0 size).1
  apart : (cs.map (·.g)).Nodup
section
variable {w w' : World} {qa p : Nat} {o k s m size : Int} {qv : Value} {cs : List Chk}
theorem QueueAt.pre (h : QueueAt w qa p o k s m size qv cs) : QPre w qa p o k s m size qv cs := ⟨h.head, h.own, h.rows, h.fits, h.same, h.apart⟩
theorem QPre.full (h : QPre w qa p o k s m size qv cs) (h1 : cs.length ≤ 500) (h2 : (qout cs).length ≤ 100000) : QueueAt w qa p o k s m size qv cs := ⟨h.head, h.own, h.rows, h.fits, h.same, h.apart, h1, h2⟩
/-- Each of its blocks holds cells. -/
theorem QPre.cells (h : QPre w qa p o k s m size qv cs) {j : Nat} (hj : QFoot qa qv cs j) : ∃ xs t, w.heap[j]? = some (.cells xs t) := by
  rcases hj with rfl | hj | hj
  · exact ⟨_, _, h.head⟩
  · obtain ⟨cur, hc⟩ := own_typed h.own j hj.symm
    exact ⟨_, _, hc⟩
  · obtain ⟨c, hc, rfl⟩ := List.mem_map.1 hj
    exact ⟨_, _, h.rows c hc⟩
theorem QPre.lt (h : QPre w qa p o k s m size qv cs) {j : Nat} (hj : QFoot qa qv cs j) : j < w.heap.size := by
  obtain ⟨xs, t, h1⟩ := h.cells hj
  exact blk_lt h1
theorem QPre.frame (h : QPre w qa p o k s m size qv cs) (hh : ∀ j, QFoot qa qv cs j → w'.heap[j]? = w.heap[j]?) : QPre w' qa p o k s m size qv cs where
  head := (hh qa (.inl rfl)).trans h.head
  own := own_frame h.own (fun j hj => hh j (.inr (.inl hj)))
  rows := fun c hc => (hh c.g (.inr (.inr (List.mem_map_of_mem hc)))).trans (h.rows c hc)
  fits := h.fits
  same := h.same
  apart := h.apart
end

/-- Piece number x of octets. -/
def pieceL (os : List Int) (S k : Nat) : List Int := (os.drop (k * S)).take S
theorem pieceL_length (os : List Int) (S k : Nat) : (pieceL os S k).length = pieceN os.length S k := by
  unfold pieceL pieceN
  rw [List.length_take, List.length_drop]
theorem pieces_take (os : List Int) (S : Nat) (j : Nat) : ((List.range j).map (pieceL os S)).flatten = os.take (j * S) := by
  induction j with
  | zero => simp
  | succ j ih =>
    rw [List.range_succ, List.map_append, List.flatten_append, ih]
    simp only [List.map_cons, List.map_nil, List.flatten_cons, List.flatten_nil, List.append_nil]
    unfold pieceL
    rw [Nat.succ_mul, List.take_add]
theorem pieces_all (os : List Int) (S M : Nat) (h : os.length ≤ M * S) : ((List.finRange M).map (fun x => pieceL os S x.val)).flatten = os := by
  have e : (List.finRange M).map (fun x : Fin M => pieceL os S x.val) = (List.range M).map (pieceL os S) := by
    apply List.ext_getElem
    · simp
    · intro i h1 h2
      simp
  rw [e, pieces_take]
  exact List.take_of_length_le h

/-- What the loop keeps: W0 is where it began, with the chunks cs. -/
structure PushRel (W0 W : World) (qa p : Nat) (o k s m size : Int) (qv0 : Value) (cs : List Chk) (os : List Int) (S M : Nat) (pre : List (Fin M)) (qv : Value) (ks : List Chk) : Prop where
  queue : QPre W qa p o k s m size qv (cs ++ ks)
  len : ks.length = pre.length
  out : qout ks = (pre.map fun x => pieceL os S x.val).flatten
  room : qroom ks = ks.length * S
  young : ∀ j, QFoot qa qv (cs ++ ks) j → QFoot qa qv0 cs j ∨ W0.heap.size ≤ j
  upd : Upd (QFoot qa qv0 cs) W0 W

section
variable {W0 W W' : World} {qa p : Nat} {o k s m size : Int} {qv0 qv : Value} {cs ks : List Chk} {os : List Int} {S M : Nat} {pre : List (Fin M)}
theorem PushRel.frame (h : PushRel W0 W qa p o k s m size qv0 cs os S M pre qv ks) {T : Nat → Prop} (hu : Upd T W W') (hT : ∀ j, T j → W0.heap.size ≤ j ∧ ¬ QFoot qa qv (cs ++ ks) j) : PushRel W0 W' qa p o k s m size qv0 cs os S M pre qv ks :=
  ⟨h.queue.frame (fun j hj => hu.block j (h.queue.lt hj) (fun e => (hT j e).2 hj)), h.len, h.out, h.room, h.young, h.upd.then hu (fun j hj => .inr (hT j hj).1)⟩
theorem PushRel.below (h : PushRel W0 W qa p o k s m size qv0 cs os S M pre qv ks) (hb : Below W.heap.size W W') : PushRel W0 W' qa p o k s m size qv0 cs os S M pre qv ks :=
  h.frame (T := fun _ => False) (Upd.of_below hb) (fun j hj => hj.elim)
/-- It abides a turn of what holds no cells. -/
theorem push_own (W0 : World) (qa p : Nat) (o k s m size : Int) (qv0 : Value) (cs : List Chk) (os : List Int) (S M : Nat) : OwnFrom W0.heap.size (fun (pre : List (Fin M)) W => ∃ qv ks, PushRel W0 W qa p o k s m size qv0 cs os S M pre qv ks) := by
  rintro pre W W' row ⟨qv, ks, h⟩ hg hr
  refine ⟨qv, ks, h.frame (T := fun j => some j = row) ⟨hg.os, hg.tape, hg.output, hg.size, fun j hj hn => hg.block j hj hn⟩ (fun j hj => ?_)⟩
  obtain ⟨hB, ob, ho, hc⟩ := hr j hj.symm
  refine ⟨hB, fun hf => ?_⟩
  obtain ⟨xs, t, h1⟩ := h.queue.cells hf
  rw [h1] at ho
  cases ho
  cases hc

/-- The new chunk. -/
def newChk (g S : Nat) (xs : List Int) : Chk := ⟨g, 0, xs.length, xs ++ List.replicate (S - xs.length) 0⟩
theorem newChk_out (g S : Nat) (xs : List Int) : (newChk g S xs).out = xs := by simp [newChk, Chk.out]
theorem newChk_len (g S : Nat) (xs : List Int) (h : xs.length ≤ S) : (newChk g S xs).ys.length = S := by simp [newChk]; omega

/-- One round more. -/
theorem PushRel.next (h : PushRel W0 W qa p o k s m size qv0 cs os S M pre qv ks) (x : Fin M) {WA WB WC WD : World} {g : Nat} {qv' : Value} {lit : Obj} (hS : S ≤ 100000) (hG : (S : Int) = (rgGrow k s m 0 size).1)
    (ha : Below W.heap.size W WA) (hg : W.heap.size ≤ g) (hgl : g < WA.heap.size) (hrow : Row WB g ((pieceL os S x.val) ++ List.replicate (S - (pieceL os S x.val).length) 0)) (hb : Upd (fun j => j = g) WA WB) (hc : WC = WB.alloc lit)
    (hown : WD.ownsRow 0 73 3 qv' ((cs ++ ks).length + 1) (qcells (cs ++ ks) ++ (newChk g S (pieceL os S x.val)).cells)) (hgr : WC.grownBy WD qv.ownBlock) (hat : ∀ j, some j = qv'.ownBlock → some j = qv.ownBlock ∨ WC.heap.size ≤ j) (hw : W' = WD.setCell ⟨qa, 7, none⟩ qv') :
    PushRel W0 W' qa p o k s m size qv0 cs os S M (pre ++ [x]) qv' (ks ++ [newChk g S (pieceL os S x.val)]) ∧ Upd (fun j => j = qa ∨ some j = qv.ownBlock) W W' := by
  obtain ⟨P, hP⟩ : ∃ P, P = pieceL os S x.val := ⟨_, rfl⟩
  have hPl : P.length ≤ S := by rw [hP, pieceL_length]; unfold pieceN; omega
  rw [← hP] at hrow hown ⊢
  have s1 := ha.size
  have s2 := hb.size
  have s3 : WC.heap.size = WB.heap.size + 1 := by rw [hc, alloc_size]
  have s4 := hgr.size
  have hsz0 := h.upd.size
  have hq : QFoot qa qv (cs ++ ks) qa := .inl rfl
  have hqne : some qa ≠ qv.ownBlock := own_not h.queue.own h.queue.head (by decide)
  -- blocks that were there
  have far : ∀ j, j < W.heap.size → some j ≠ qv.ownBlock → WD.heap[j]? = W.heap[j]? := fun j hj hn => by
    have e1 : WC.heap[j]? = WB.heap[j]? := by rw [hc]; exact Below.heap_alloc _ _ _ (by omega)
    rw [hgr.block j (by omega) hn, e1, hb.block j (by omega) (by omega), ha.block j hj]
  have hown' : ∀ j, some j = qv'.ownBlock → some j = qv.ownBlock ∨ W.heap.size ≤ j ∧ j ≠ g := fun j hj => by
    rcases hat j hj with e | e
    · exact .inl e
    · have hgB := hrow.lt
      exact .inr ⟨by omega, by omega⟩
  have hqne' : some qa ≠ qv'.ownBlock := fun e => by
    have := h.queue.lt hq
    rcases hown' _ e with e1 | ⟨e1, _⟩
    · exact hqne e1
    · omega
  have hU : Upd (fun j => j = qa ∨ some j = qv.ownBlock) W W' := by
    rw [hw]
    have u1 : Upd (fun j => j = qa ∨ some j = qv.ownBlock) W WB := (Upd.of_below ha).then hb (fun j hj => .inr (by rw [hj]; exact hg))
    have u2 : Upd (fun j => j = qa ∨ some j = qv.ownBlock) W WC := by
      rw [hc]
      exact u1.then (Upd.of_below (S := fun _ => False) (below_alloc (Below.refl _ _) _)) (fun j hj => hj.elim)
    have u3 : Upd (fun j => j = qa ∨ some j = qv.ownBlock) W WD := u2.then (Upd.of_grown (S := fun j => some j = qv.ownBlock) hgr (fun j hj => hj)) (fun j hj => .inl (.inr hj))
    exact u3.setCell ⟨qa, 7, none⟩ (.inl (.inl rfl)) _
  have hgC : WC.heap[g]? = WB.heap[g]? := by rw [hc]; exact Below.heap_alloc _ _ _ hrow.lt
  have hgW : W'.heap[g]? = WB.heap[g]? := by
    have hne : g ≠ qa := fun e => by have := h.queue.lt hq; omega
    have hno : some g ≠ qv.ownBlock := fun e => by have := h.queue.lt (j := g) (.inr (.inl e)); omega
    have e1 : W'.heap[g]? = WD.heap[g]? := by rw [hw]; exact Below.heap_setCell WD ⟨qa, 7, none⟩ _ g hne
    rw [e1, hgr.block g (by have := hrow.lt; omega) hno, hgC]
  have hfar' : ∀ j, j < W.heap.size → j ≠ qa → some j ≠ qv.ownBlock → W'.heap[j]? = W.heap[j]? := fun j hj a b => hU.block j hj (fun e => e.elim a b)
  refine ⟨⟨⟨?_, ?_, ?_, ?_, ?_, ?_⟩, ?_, ?_, ?_, ?_, ?_⟩, hU⟩
  · have e1 : WD.heap[qa]? = W.heap[qa]? := far qa (h.queue.lt hq) hqne
    have := blk_set (e1.trans h.queue.head) 7 qv'
    rw [hw]
    unfold queueCells
    simpa using this
  · have e : qcells (cs ++ (ks ++ [newChk g S P])) = qcells (cs ++ ks) ++ (newChk g S P).cells := by
      rw [← List.append_assoc, qcells_app]
      simp [qcells]
    rw [hw, e]
    have l : (cs ++ (ks ++ [newChk g S P])).length = (cs ++ ks).length + 1 := by simp; omega
    rw [l]
    exact own_setCell hown (fun e => hqne' e) _
  · intro c hc'
    rw [← List.append_assoc] at hc'
    rcases List.mem_append.1 hc' with hc' | hc'
    · have hj : QFoot qa qv (cs ++ ks) c.g := .inr (.inr (List.mem_map_of_mem hc'))
      have hrc := h.queue.rows c hc'
      refine (hfar' c.g (h.queue.lt hj) (fun e => ?_) (own_not h.queue.own hrc (by decide))).trans hrc
      unfold Row at hrc
      rw [e, h.queue.head] at hrc
      unfold queueCells at hrc
      injection hrc with hrc
      injection hrc with _ hrc _
      exact absurd hrc (by decide)
    · obtain rfl := List.mem_singleton.1 hc'
      exact hgW.trans hrow
  · intro c hc'
    rw [← List.append_assoc] at hc'
    rcases List.mem_append.1 hc' with hc' | hc'
    · exact h.queue.fits c hc'
    · obtain rfl := List.mem_singleton.1 hc'
      have := newChk_len g S P hPl
      refine ⟨Nat.zero_le _, ?_, by omega⟩
      rw [this]
      exact hPl
  · intro c hc'
    rw [← List.append_assoc] at hc'
    rcases List.mem_append.1 hc' with hc' | hc'
    · exact h.queue.same c hc'
    · obtain rfl := List.mem_singleton.1 hc'
      rw [newChk_len g S P hPl]
      exact hG
  · rw [← List.append_assoc, List.map_append, List.nodup_append]
    refine ⟨h.queue.apart, by simp, fun a ha' b hb' => ?_⟩
    have : b = g := by simpa [newChk] using hb'
    subst this
    have := h.queue.lt (j := a) (.inr (.inr ha'))
    omega
  · simp [h.len]
  · rw [qout_app, h.out]
    simp [qout, newChk_out, hP]
  · rw [qroom_app, h.room]
    have : qroom [newChk g S P] = S := by simp [qroom, newChk_len g S P hPl]
    rw [this, List.length_append, List.length_singleton, Nat.succ_mul]
  · rintro j (rfl | hj | hj)
    · exact .inl (.inl rfl)
    · rcases hown' j hj with e | ⟨e, _⟩
      · exact h.young j (.inr (.inl e))
      · exact .inr (by omega)
    · rw [← List.append_assoc, List.map_append] at hj
      rcases List.mem_append.1 hj with hj | hj
      · exact h.young j (.inr (.inr hj))
      · have : j = g := by simpa [newChk] using hj
        exact .inr (by omega)
  · refine h.upd.then hU (fun j hj => ?_)
    rcases hj with rfl | hj
    · exact .inl (.inl rfl)
    · exact h.young j (.inr (.inl hj))
/-- What holds no cells stays. -/
theorem PushRel.others (h : PushRel W0 W qa p o k s m size qv0 cs os S M pre qv ks) (hu : Upd (fun j => j = qa ∨ some j = qv.ownBlock) W W') : KeepsOthers W W' := ⟨hu.size, fun j ob hj ho => by
  refine (hu.block j (Array.getElem?_eq_some_iff.1 hj).1 (fun e => ?_)).trans hj
  have hf : QFoot qa qv (cs ++ ks) j := e.imp id .inl
  obtain ⟨xs, t, h1⟩ := h.queue.cells hf
  rw [h1] at hj
  cases hj
  cases ho⟩
/-- The iterator's boxes stay. -/
theorem PushRel.boxes (h : PushRel W0 W qa p o k s m size qv0 cs os S M pre qv ks) (hu : Upd (fun j => j = qa ∨ some j = qv.ownBlock) W W') {b2 b3 : Nat} {A : Option Addr} {len cap S' : Nat} : KeepB b2 b3 A len cap S' W W' := fun hb => by
  have hne : ∀ j xs t, W.heap[j]? = some (.cells xs t) → t ≠ 67 → t ≠ 73 → ¬ (j = qa ∨ some j = qv.ownBlock) := fun j xs t hj h1 h2 e => by
    rcases e with rfl | e
    · rw [h.queue.head] at hj
      unfold queueCells at hj
      injection hj with hj
      injection hj with _ hj _
      exact h1 hj.symm
    · exact own_not h.queue.own hj (Ne.symm h2) e
  exact ⟨(hu.block _ (blk_lt hb.s) (hne _ _ _ hb.s (by decide) (by decide))).trans hb.s, (hu.block _ (blk_lt hb.n) (hne _ _ _ hb.n (by decide) (by decide))).trans hb.n⟩
end
end Go.Proofs.Ytmellidlnggldaa.Ring
