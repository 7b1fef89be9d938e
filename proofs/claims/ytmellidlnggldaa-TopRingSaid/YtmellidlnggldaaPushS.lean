/- Queues: what Push leaves. -/
import Derived.Test.YtmellidlnggldaaSpare
import Derived.Deep.DeepCutAuto
namespace Go.Proofs.Ytmellidlnggldaa.Ring
set_option linter.unusedVariables false
open Go.RowKit Go.Proofs.YtmellidlnggldaaW.PrintWords Go.Proofs.YtmellidlnggldaaW.PrintLast Go.Proofs.YtmellidlnggldaaW.PrintMore Go.Proofs.Ytmellidlnggldaa.Book Go.Proofs.Ytmellidlnggldaa.Oct Go.Proofs.Ytmellidlnggldaa.Pure
set_option linter.unusedSimpArgs false
attribute [local go_sem] Oper.semAt_some

/-- What Push leaves. -/
structure Pushed (w w' : World) (qa p : Nat) (o k s m size : Int) (qv : Value) (cs : List Chk) (os : List Int) (b : BookS) (q : Parts) (err : Int) (qv' : Value) (ks : List Chk) (b' : BookS) (q' : Parts) : Prop where
  queue : QueueAt w' qa p o k s m size qv' ks
  shows : qout ks = if err = 0 then qout cs ++ os else qout cs
  young : ∀ j, QFoot qa qv' ks j → QFoot qa qv cs j ∨ w.heap.size ≤ j
  book : BookAt w' p b' q'
  upd : Upd (fun j => QFoot qa qv cs j ∨ q.Foot p j) w w'
  foot : ∀ j, q'.Foot p j → q.Foot p j ∨ w.heap.size ≤ j
  took : (qroom ks = qroom cs ∧ b' = b) ∨ (qroom cs < qroom ks ∧ ∃ i x, b.accs[i]? = some x ∧ x.1 = o ∧ ((qroom ks - qroom cs : Nat) : Int) ≤ leftS b x.2 ∧ b' = b.hold i o ((qroom ks - qroom cs : Nat) : Int))

theorem pushed_same {w w' : World} {qa p : Nat} {o k s m size : Int} {qv : Value} {cs : List Chk} {os : List Int} {b : BookS} {q : Parts} {err : Int} (hQ : QueueAt w qa p o k s m size qv cs) (hB : BookAt w p b q) (he : err ≠ 0) (hl : Book.Leaves w w' p q b) :
    ∃ qv' ks b' q', Pushed w w' qa p o k s m size qv cs os b q err qv' ks b' q' := by
  obtain ⟨q', l1, l2, l3⟩ := hl
  exact ⟨qv, cs, b, q', hQ.upd l2 (fun j hj => hQ.not_book hB hj), by rw [if_neg he], fun j hj => .inl hj, l1, l2.mono (fun j hj => .inr hj), l3, .inl ⟨rfl, rfl⟩⟩

/-- The octets that still fit into the last chunk. -/
def spareOf (cs : List Chk) (n : Nat) : Nat := match cs.getLast? with
  | none => 0
  | some c => min (c.ys.length - c.tt) n
theorem spareOf_le (cs : List Chk) (n : Nat) : spareOf cs n ≤ n := by
  unfold spareOf; split <;> omega

/-- The box that holds the queue's address. -/
theorem box_kept {w W : World} {S : Nat → Prop} {b0 : Nat} {v : Value} {t : TypeId} (h : w.heap[b0]? = some (.cells #[v] t)) (hu : Upd S w W) (hn : ¬ S b0) : W.heap[b0]? = some (.cells #[v] t) := (hu.block _ (blk_lt h) hn).trans h

/-- Where room is taken: the queue is as it was. -/
structure TakenRel (w wx : World) (qa p : Nat) (o k s m size : Int) (qv : Value) (cs : List Chk) (b : BookS) (q : Parts) (bs : Nat) (S T : Nat) (b' : BookS) (q' : Parts) : Prop where
  queue : QueueAt wx qa p o k s m size qv cs
  book : BookAt wx p b' q'
  upd : Upd (q.Foot p) w wx
  foot : ∀ j, q'.Foot p j → q.Foot p j ∨ w.heap.size ≤ j
  bx : wx.heap[w.heap.size]? = some (.cells #[.pointer (some ⟨qa, 0, none⟩)] 34)
  bz : wx.heap[bs]? = some (.cells #[.int .i64 (S : Int)] 3)
  took : (T = 0 ∧ b' = b) ∨ (0 < T ∧ ∃ i x, b.accs[i]? = some x ∧ x.1 = o ∧ (T : Int) ≤ leftS b x.2 ∧ b' = b.hold i o T)

theorem taken_of {w wx w' : World} {qa p : Nat} {o k s m size : Int} {qv : Value} {cs : List Chk} {b : BookS} {q : Parts} {bs S T : Nat} {i : Nat} {x : Int × Acc} (hQ : QueueAt w qa p o k s m size qv cs) (hB : BookAt w p b q) (hb : Below w.heap.size w wx) (hbs : w.heap.size ≤ bs)
    (bx : wx.heap[w.heap.size]? = some (.cells #[.pointer (some ⟨qa, 0, none⟩)] 34)) (bz : wx.heap[bs]? = some (.cells #[.int .i64 (S : Int)] 3))
    (h0 : 0 < T) (hx : b.accs[i]? = some x ∧ x.1 = o ∧ (T : Int) ≤ leftS b x.2) (hl : Book.Leaves wx w' p q (b.hold i o T)) : ∃ b' q', TakenRel w w' qa p o k s m size qv cs b q bs S T b' q' := by
  obtain ⟨q', l1, l2, l3⟩ := hl
  have nf : ∀ j, w.heap.size ≤ j → ¬ q.Foot p j := fun j hj hk => by have := hB.lt hk; omega
  exact ⟨_, q', (hQ.below hb).upd l2 (fun j hj => hQ.not_book hB hj), l1, (Upd.of_below hb).then l2 (fun j hj => .inl hj), fun j hj => (l3 j hj).imp id (Nat.le_trans hb.size), (l2.block _ (blk_lt bx) (nf _ (Nat.le_refl _))).trans bx, (l2.block _ (blk_lt bz) (nf _ hbs)).trans bz, .inr ⟨h0, i, x, hx.1, hx.2.1, hx.2.2, rfl⟩⟩

theorem TakenRel.below {w wx wy : World} {qa p : Nat} {o k s m size : Int} {qv : Value} {cs : List Chk} {b : BookS} {q : Parts} {bs S T : Nat} {b' : BookS} {q' : Parts} (h : TakenRel w wx qa p o k s m size qv cs b q bs S T b' q') (hb : Below wx.heap.size wx wy) : TakenRel w wy qa p o k s m size qv cs b q bs S T b' q' :=
  ⟨h.queue.below hb, h.book.frame (fun j hj => hb.block j (h.book.lt hj)), h.upd.then (Upd.of_below (S := fun _ => False) hb) (fun j hj => hj.elim), h.foot, (hb.block _ (blk_lt h.bx)).trans h.bx, (hb.block _ (blk_lt h.bz)).trans h.bz, h.took⟩

/-- The last chunk is filled up: the chunks are cs1. -/
structure SpareRel (w wx : World) (qa p : Nat) (o k s m size : Int) (A : Option Addr) (cap : Nat) (cs : List Chk) (b : BookS) (q : Parts) (bs S T : Nat) (b' : BookS) (q' : Parts) (os : List Int) (sp : Nat) (PA : Option Addr) (cs1 : List Chk) : Prop where
  queue : QueueAt wx qa p o k s m size (.slice A cs.length cap) cs1
  len : cs1.length = cs.length
  shows : qout cs1 = qout cs ++ os.take sp
  room : qroom cs1 = qroom cs
  maps : cs1.map (·.g) = cs.map (·.g)
  book : BookAt wx p b' q'
  upd : Upd (fun j => QFoot qa (.slice A cs.length cap) cs j ∨ q.Foot p j) w wx
  foot : ∀ j, q'.Foot p j → q.Foot p j ∨ w.heap.size ≤ j
  bx : wx.heap[w.heap.size]? = some (.cells #[.pointer (some ⟨qa, 0, none⟩)] 34)
  bz : wx.heap[bs]? = some (.cells #[.int .i64 (S : Int)] 3)
  put : ReadsInt wx .u8 PA os.length os
  puty : ∀ ad, PA = some ad → ∃ g, ad = ⟨g, 0, none⟩ ∧ w.heap.size ≤ g
  took : (T = 0 ∧ b' = b) ∨ (0 < T ∧ ∃ i x, b.accs[i]? = some x ∧ x.1 = o ∧ (T : Int) ≤ leftS b x.2 ∧ b' = b.hold i o T)

theorem spare_none {w wx : World} {qa p : Nat} {o k s m size : Int} {A : Option Addr} {cap : Nat} {cs : List Chk} {b : BookS} {q : Parts} {bs S T : Nat} {b' : BookS} {q' : Parts} {os : List Int} {PA : Option Addr} (h : TakenRel w wx qa p o k s m size (.slice A cs.length cap) cs b q bs S T b' q')
    (hp : ReadsInt wx .u8 PA os.length os) (hy : ∀ ad, PA = some ad → ∃ g, ad = ⟨g, 0, none⟩ ∧ w.heap.size ≤ g) : SpareRel w wx qa p o k s m size A cap cs b q bs S T b' q' os 0 PA cs :=
  ⟨h.queue, rfl, by simp, rfl, rfl, h.book, h.upd.mono (fun j hj => .inr hj), h.foot, h.bx, h.bz, hp, hy, h.took⟩

theorem spare_some {w wx w1 w' : World} {qa p : Nat} {o k s m size : Int} {g cap : Nat} {cs : List Chk} {b : BookS} {q : Parts} {bs S T : Nat} {b' : BookS} {q' : Parts} {os : List Int} {PA : Option Addr} (hQ : QueueAt w qa p o k s m size (.slice (some ⟨g, 0, none⟩) cs.length cap) cs) (h : TakenRel w wx qa p o k s m size (.slice (some ⟨g, 0, none⟩) cs.length cap) cs b q bs S T b' q') (hbs : w.heap.size ≤ bs)
    (hp : ReadsInt wx .u8 PA os.length os) (hy : ∀ ad, PA = some ad → ∃ g, ad = ⟨g, 0, none⟩ ∧ w.heap.size ≤ g) {K sp : Nat} {c : Chk} (hK : K + 1 = cs.length) (hc : cs[K]? = some c) (hs : sp ≤ os.length) (hO : c.tt + sp ≤ c.ys.length) (hl : (qout cs).length + sp ≤ 100000)
    (hrow : Row w1 c.g (c.ys.take c.tt ++ os.take sp ++ c.ys.drop (c.tt + (os.take sp).length))) (hu : Upd (fun j => j = c.g) wx w1) (he : w' = w1.setCell ⟨g, K * 3 + 2, none⟩ (.int .i64 ((c.tt + sp : Nat) : Int))) :
    ∃ cs1, SpareRel w w' qa p o k s m size (some ⟨g, 0, none⟩) cap cs b q bs S T b' q' os sp PA cs1 := by
  have hsl : (os.take sp).length = sp := by rw [List.length_take]; omega
  obtain ⟨cs1, a1, a2, a3, a4, a5, a6⟩ := spare_done (w' := w') h.queue hK hc (os.take sp) (by rw [hsl]; exact hO) (by rw [hsl]; exact hl) hrow hu (by rw [hsl]; exact he)
  rw [a2] at a1
  have hfl : ∀ j, QFoot qa (.slice (some ⟨g, 0, none⟩) cs.length cap) cs j → j < w.heap.size := fun j hj => hQ.lt hj
  refine ⟨cs1, a1, a2, a3, a4, a5, h.book.frame (fun j hj => a6.block j (h.book.lt hj) (fun e => h.queue.not_book h.book e hj)), (h.upd.mono (fun j hj => .inr hj)).then a6 (fun j hj => .inl (.inl hj)), h.foot, ?_, ?_, ?_, hy, h.took⟩
  · exact (a6.block _ (blk_lt h.bx) (fun e => by have := hfl _ e; omega)).trans h.bx
  · exact (a6.block _ (blk_lt h.bz) (fun e => by have := hfl _ e; omega)).trans h.bz
  · refine reads_upd hp a6 (fun ad e _ hf => ?_)
    obtain ⟨g', rfl, hg⟩ := hy ad e
    have := hfl _ hf
    simp only at this
    omega

theorem qfoot_maps {qa : Nat} {qv : Value} {cs cs1 : List Chk} (h : cs1.map (·.g) = cs.map (·.g)) {j : Nat} : QFoot qa qv cs1 j ↔ QFoot qa qv cs j := by unfold QFoot; rw [h]

theorem SpareRel.below {w wx wy : World} {qa p : Nat} {o k s m size : Int} {A : Option Addr} {cap : Nat} {cs : List Chk} {b : BookS} {q : Parts} {bs S T : Nat} {b' : BookS} {q' : Parts} {os : List Int} {sp : Nat} {PA : Option Addr} {cs1 : List Chk} (h : SpareRel w wx qa p o k s m size A cap cs b q bs S T b' q' os sp PA cs1) (hb : Below wx.heap.size wx wy) : SpareRel w wy qa p o k s m size A cap cs b q bs S T b' q' os sp PA cs1 :=
  ⟨h.queue.below hb, h.len, h.shows, h.room, h.maps, h.book.frame (fun j hj => hb.block j (h.book.lt hj)), h.upd.then (Upd.of_below (S := fun _ => False) hb) (fun j hj => hj.elim), h.foot, (hb.block _ (blk_lt h.bx)).trans h.bx, (hb.block _ (blk_lt h.bz)).trans h.bz, h.put.below hb, h.puty, h.took⟩

theorem push_start {w w7 : World} {qa p : Nat} {o k s m size : Int} {A : Option Addr} {cap : Nat} {cs : List Chk} {b : BookS} {q : Parts} {bs S T M : Nat} {b' : BookS} {q' : Parts} {os : List Int} {sp : Nat} {PA : Option Addr} {cs1 : List Chk} (h : SpareRel w w7 qa p o k s m size A cap cs b q bs S T b' q' os sp PA cs1) :
    PushRel w7 w7 qa p o k s m size (.slice A cs.length cap) cs1 (os.drop sp) S M [] (.slice A cs.length cap) [] :=
  ⟨by rw [List.append_nil]; exact h.queue.pre, rfl, by simp [qout], by simp [qroom], fun j hj => .inl (by rw [List.append_nil] at hj; exact hj), Upd.refl _ _⟩

theorem push_done {w w7 W : World} {qa p : Nat} {o k s m size : Int} {A : Option Addr} {cap : Nat} {cs : List Chk} {b : BookS} {q : Parts} {bs S T M : Nat} {b' : BookS} {q' : Parts} {os : List Int} {sp : Nat} {PA : Option Addr} {cs1 : List Chk} {qv : Value} {ks : List Chk} (h : SpareRel w w7 qa p o k s m size A cap cs b q bs S T b' q' os sp PA cs1) (hr : PushRel w7 W qa p o k s m size (.slice A cs.length cap) cs1 (os.drop sp) S M (List.finRange M) qv ks)
    (hT : T = M * S) (hM : os.length - sp ≤ M * S) (hm : cs.length + M ≤ 500) (hl : (qout cs).length + os.length ≤ 100000) : Pushed w W qa p o k s m size (.slice A cs.length cap) cs os b q 0 qv (cs1 ++ ks) b' q' := by
  have hkl : ks.length = M := by rw [hr.len]; simp
  have hsh : qout (cs1 ++ ks) = qout cs ++ os := by
    rw [qout_app, h.shows, hr.out, pieces_all (os.drop sp) S M (by rw [List.length_drop]; exact hM), List.append_assoc, List.take_append_drop]
  have hrm : qroom (cs1 ++ ks) = qroom cs + T := by rw [qroom_app, h.room, hr.room, hkl, hT]
  have hsz := h.upd.size
  refine ⟨hr.queue.full (by rw [List.length_append, h.len, hkl]; exact hm) (by rw [hsh, List.length_append]; exact hl), by rw [if_pos rfl]; exact hsh, fun j hj => ?_, ?_, ?_, h.foot, ?_⟩
  · rcases hr.young j hj with e | e
    · exact .inl ((qfoot_maps h.maps).1 e)
    · exact .inr (by omega)
  · exact h.book.frame (fun j hj => hr.upd.block j (h.book.lt hj) (fun e => h.queue.not_book h.book e hj))
  · exact h.upd.then hr.upd (fun j hj => .inl (.inl ((qfoot_maps h.maps).1 hj)))
  · have e : qroom cs + T - qroom cs = T := by omega
    rw [hrm, e]
    rcases h.took with ⟨h1, h2⟩ | ⟨h1, h2⟩
    · exact .inl ⟨by omega, h2⟩
    · exact .inr ⟨by omega, h2⟩

theorem push_mark {W0 W : World} {qa p : Nat} {o k s m size : Int} {qv0 qv : Value} {cs ks : List Chk} {os : List Int} {S M : Nat} {pre : List (Fin M)} (h : PushRel W0 W qa p o k s m size qv0 cs os S M pre qv ks) {D : Nat} (hD : W0.heap.size ≤ D) (hK : W.heap[D]? = some (.deferred (some []))) : PushRel W0 (W.putObj D (.deferred none)) qa p o k s m size qv0 cs os S M pre qv ks := by
  have hg := grownBy_putObj' W D (.deferred none)
  refine h.frame (T := fun j => j = D) ⟨hg.os, hg.tape, hg.output, hg.size, fun j hj hn => hg.block j hj (fun e => hn (Option.some.inj e))⟩ (fun j hj => ?_)
  subst hj
  refine ⟨hD, fun hf => ?_⟩
  obtain ⟨xs, t, h1⟩ := h.queue.cells hf
  rw [h1] at hK
  cases hK

/-- A round's steps: what each world gives. -/
theorem round_facts {w7 W w9 : World} {qa p : Nat} {o k s m size : Int} {qv0 qv : Value} {cs ks : List Chk} {os : List Int} {S M : Nat} {pre : List (Fin M)} (h : PushRel w7 W qa p o k s m size qv0 cs os S M pre qv ks) (x : Fin M) {g b0 : Nat} {v0 : Value} (hS : S ≤ 100000) (hG : (S : Int) = (rgGrow k s m 0 size).1) (ha : Below W.heap.size W w9) (hg : W.heap.size ≤ g) (hrow : Row w9 g (List.replicate S 0)) (hbx : W.heap[b0]? = some (.cells #[v0] 34)) (P : List Int) (hP : P = pieceL os S x.val) :
    (∀ w10, Upd (fun j => j = g) w9 w10 → (w10.cell? ⟨b0, 0, none⟩ = some v0 ∧ w10.cell? ⟨qa, 7, none⟩ = some qv) ∧ ∀ ob, (w10.alloc ob).cell? ⟨qa, 7, none⟩ = some qv ∧ (w10.alloc ob).ownsRow 0 73 3 qv (cs ++ ks).length (qcells (cs ++ ks))) ∧
    (∀ w10 w11 (g1 cap1 : Nat) ob, Row w10 g ((List.replicate S 0).take 0 ++ P ++ (List.replicate S 0).drop (0 + P.length)) → Upd (fun j => j = g) w9 w10 → w11.ownsRow 0 73 3 (.slice (some ⟨g1, 0, none⟩) ((cs ++ ks).length + 1) cap1) ((cs ++ ks).length + 1) (qcells (cs ++ ks) ++ [.slice (some ⟨g, 0, none⟩) S S, .int .i64 0, .int .i64 (P.length : Int)]) → (w10.alloc ob).grownBy w11 qv.ownBlock → (some g1 = qv.ownBlock ∨ (w10.alloc ob).heap.size ≤ g1) →
      w11.cell? ⟨b0, 0, none⟩ = some v0 ∧ w11.cell? ⟨qa, 7, none⟩ = some qv ∧ w11.frozen? ⟨qa, 7, none⟩ = false ∧ ∃ qv' ks', PushRel w7 (w11.setCell ⟨qa, 7, none⟩ (.slice (some ⟨g1, 0, none⟩) ((cs ++ ks).length + 1) cap1)) qa p o k s m size qv0 cs os S M (pre ++ [x]) qv' ks' ∧ Upd (fun j => j = qa ∨ some j = qv.ownBlock) W (w11.setCell ⟨qa, 7, none⟩ (.slice (some ⟨g1, 0, none⟩) ((cs ++ ks).length + 1) cap1))) := by
  have hbl := blk_lt hbx
  have hql := h.queue.lt (j := qa) (.inl rfl)
  have hqn : some qa ≠ qv.ownBlock := own_not h.queue.own h.queue.head (by decide)
  have hbn : some b0 ≠ qv.ownBlock := own_not h.queue.own hbx (by decide)
  have s1 := ha.size
  have hgl := hrow.lt
  have hPl : P.length ≤ S := by rw [hP, pieceL_length]; unfold pieceN; omega
  have hcl : (newChk g S P).cells = [.slice (some ⟨g, 0, none⟩) S S, .int .i64 0, .int .i64 (P.length : Int)] := by
    unfold Chk.cells
    rw [newChk_len g S P hPl]
    rfl
  have old : ∀ w10, Upd (fun j => j = g) w9 w10 → ∀ j, j < W.heap.size → w10.heap[j]? = W.heap[j]? := fun w10 hu j hj => (hu.block j (by omega) (by omega)).trans (ha.block j hj)
  refine ⟨fun w10 hu => ?_, fun w10 w11 g1 cap1 ob hr hu ho hgr hat => ?_⟩
  · have e1 := (old w10 hu b0 hbl).trans hbx
    have e2 := (old w10 hu qa hql).trans h.queue.head
    have c1 : w10.cell? ⟨qa, 7, none⟩ = some qv := (queue_cells e2).2.2.2.2.2.2.2
    refine ⟨⟨by rw [blk_cell e1]; rfl, c1⟩, fun ob => ⟨old_cell c1 (below_alloc (Below.refl _ _) _), ?_⟩⟩
    refine own_frame h.queue.own (fun j hj => ?_)
    have hjl := own_lt' h.queue.own hj
    have hu' := hu.size
    rw [Below.heap_alloc _ _ _ (by omega)]
    exact old w10 hu j hjl
  · have hu' := hu.size
    have e1 : w11.heap[b0]? = some (.cells #[v0] 34) := by
      rw [hgr.block b0 (by rw [alloc_size]; omega) hbn, Below.heap_alloc _ _ _ (by omega)]
      exact (old w10 hu b0 hbl).trans hbx
    have e2 : w11.heap[qa]? = some (queueCells p o k s m size false qv) := by
      rw [hgr.block qa (by rw [alloc_size]; omega) hqn, Below.heap_alloc _ _ _ (by omega)]
      exact (old w10 hu qa hql).trans h.queue.head
    have hn := h.next x (WA := w9) (WB := w10) (WC := w10.alloc ob) (WD := w11) (g := g) (qv' := .slice (some ⟨g1, 0, none⟩) ((cs ++ ks).length + 1) cap1) (lit := ob) hS hG ha hg hgl (by rw [← hP]; have := hr; simpa using this) hu rfl (by rw [← hP, hcl]; exact ho) hgr (fun j hj => by
      have : j = g1 := by simpa [Value.ownBlock] using hj
      rw [this]; exact hat) rfl
    exact ⟨by rw [blk_cell e1]; rfl, (queue_cells e2).2.2.2.2.2.2.2, blk_frozen e2 7, _, _, hn⟩

theorem alloc_drew_box {w w9 : World} {o : Obj} (h : Below (w.alloc o).drew.heap.size (w.alloc o).drew w9) : w9.heap[w.heap.size]? = some o :=
  (h.block w.heap.size (by show w.heap.size < (w.alloc o).heap.size; rw [alloc_size]; omega)).trans (blk_new w o)

/-- Only the way on. -/
def onlyNormal (K : Act → World → Prop) : Exit → Act → World → Prop
  | .normal, a, w => K a w
  | _, _, _ => False
theorem onlyNormal_of {K : Act → World → Prop} {a : Act} {w : World} (h : K a w) : onlyNormal K .normal a w := h
theorem wp_only {P : Program} {c : Code} {K : Act → World → Prop} {Q : Exit → Act → World → Prop} {a : Act} {w : World} (h : c.wp P (onlyNormal K) a w) : c.wp P (Exit.then K Q) a w :=
  wp_mono h (fun e a w h => by cases e <;> first | exact h | exact h.elim)
theorem cell_set_ne {w : World} {g i j : Nat} {v u : Value} (h : w.cell? ⟨g, i, none⟩ = some u) (hne : i ≠ j) : (w.setCell ⟨g, j, none⟩ v).cell? ⟨g, i, none⟩ = some u := by
  rw [World.cell?_setCell_other]
  · exact h
  · intro e
    injection e with _ e _
    exact hne e.symm
end Go.Proofs.Ytmellidlnggldaa.Ring
