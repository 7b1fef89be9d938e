/- TopArena, plain: what holds between two takes. -/
import Derived.Test.YticbjaclnneaoaaArTook
import Derived.Test.YticbjaclnneaoaaArRel
import Derived.Test.YticbjaclnneaoaaArList
namespace Go.Proofs.Yticbjaclnneaoaa.Arena
set_option linter.unusedVariables false
open Go.RowKit Go.Proofs.YticbjaclnneaoaaW.PrintWords Go.Proofs.YticbjaclnneaoaaW.PrintLast Go.Proofs.YticbjaclnneaoaaW.PrintMore Go.Proofs.Yticbjaclnneaoaa.Book Go.Proofs.Yticbjaclnneaoaa.Oct Go.Proofs.Yticbjaclnneaoaa.Pure Go.Proofs.Yticbjaclnneaoaa.MapInt
set_option linter.unusedSimpArgs false

/-! ### maps -/
theorem mget_mput_same (l : List (Int × Value)) (k : Int) (v : Value) : mget (mput l k v) k = some v := by
  induction l with
  | nil => simp [mput, mget]
  | cons a l ih =>
    obtain ⟨x, y⟩ := a
    by_cases h : k = x
    · simp [mput, mget, h]
    · simp [mput, mget, h, ih]
theorem mget_mput_other (l : List (Int × Value)) (k j : Int) (v : Value) (h : j ≠ k) : mget (mput l k v) j = mget l j := by
  induction l with
  | nil => simp [mput, mget, h]
  | cons a l ih =>
    obtain ⟨x, y⟩ := a
    by_cases hk : k = x
    · subst hk
      simp [mput, mget, h]
    · simp [mput, mget, hk, ih]

/-! ### what is lost -/
def lostC (cs : List Chu) (rs : List Reg) : Int := match rs.getLast? with
  | none => 0
  | some x => x.tt + aroom (cs.take x.ch) - alen rs
theorem lostOf_eq (S : ArS) : lostOf S = lostC S.cs S.rs := rfl
theorem lostC_more {cs : List Chu} {rs : List Reg} (h : ∀ x ∈ rs, x.ch < cs.length) (ks : List Chu) : lostC (cs ++ ks) rs = lostC cs rs := by
  unfold lostC
  split
  · rfl
  · rename_i x hx
    have := h x (List.mem_of_getLast? hx)
    rw [List.take_append_of_le_length (by omega)]
theorem lostC_put {cs : List Chu} {i b : Nat} {os : List Int} {c : Chu} (hc : cs[i]? = some c) (hb : b + os.length ≤ c.ys.length) (rs : List Reg) : lostC (cput cs i b os) rs = lostC cs rs := by
  unfold lostC
  split
  · rfl
  · rw [cput_aroom_take hc hb]

/-! ### the stack -/
structure Thn where
  mark : Int
  len : Int
  lost : Int
  A : Option Addr
  n : Nat
  cap : Nat
  nos : List Int
def Thn.cells (t : Thn) : List Value := [.int .i64 t.mark, .int .i64 t.len, .int .i64 t.lost, .slice t.A t.n t.cap]
theorem thn4 (t : Thn) : t.cells.length = 4 := rfl
theorem thnAt {w : World} {base : Nat} {A : Option Addr} {n cap : Nat} {st : List Thn} (h : w.ownsRow base 44 4 (.slice A n cap) n (rowsOf Thn.cells st)) {k : Nat} {t : Thn} (hx : st[k]? = some t) :
    ∃ g, A = some ⟨g, 0, none⟩ ∧ w.cell? ⟨g, k * 4, none⟩ = some (.int .i64 t.mark) ∧ w.cell? ⟨g, k * 4 + 1, none⟩ = some (.int .i64 t.len) ∧ w.cell? ⟨g, k * 4 + 2, none⟩ = some (.int .i64 t.lost) ∧ w.cell? ⟨g, k * 4 + 3, none⟩ = some (.slice t.A t.n t.cap) := by
  obtain ⟨g, c1, e, hc⟩ := own_at thn4 (by decide) h hx
  injection e with e1 e2 e3
  subst e1
  exact ⟨g, rfl, hc 0 _ rfl, hc 1 _ rfl, hc 2 _ rfl, hc 3 _ rfl⟩

/-- The numbers that were noted at a mark lie in a block of their own. -/
def NosAt (w : World) (t : Thn) : Prop := ReadsInt w .i64 t.A t.n t.nos ∧ ∀ ad, t.A = some ad → ∃ cur, w.heap[ad.block]? = some (.cells cur 3)
structure StkAt (w : World) (B : Nat) (v : Value) (st : List Thn) : Prop where
  own : w.ownsRow B 44 4 v st.length (rowsOf Thn.cells st)
  rows : ∀ t ∈ st, NosAt w t
/-- What the stack says of the arena. -/
structure Says (st : List Thn) (cs : List Chu) (rs : List Reg) (ms : List Mrk) : Prop where
  len : st.length = ms.length
  each : ∀ (i : Nat) (t : Thn) (x : Mrk), st[i]? = some t → ms[i]? = some x → t.mark = x.no ∧ t.len = alen (rs.take x.many) ∧ t.lost = lostC cs (rs.take x.many) ∧ t.nos = nosOf (rs.take x.many) ∧ x.tend = tendOf (rs.take x.many)
theorem Says.nil (cs : List Chu) (rs : List Reg) : Says [] cs rs [] := ⟨rfl, fun i t x h => by simp at h⟩
/-- Chunks and regions more. -/
theorem Says.took {st : List Thn} {S S' : ArS} (h : Says st S.cs S.rs S.ms) (hG : Good S) {n i b : Nat} (hT : Took S S' n i b) : Says st S'.cs S'.rs S'.ms := by
  obtain ⟨ks, c, hc, hf, hcs⟩ := hT.cs
  rw [hT.rs, hT.ms, hcs]
  refine ⟨h.len, fun j t x h1 h2 => ?_⟩
  obtain ⟨e1, e2, e3, e4, e5⟩ := h.each j t x h1 h2
  have hm := hG.many x (List.mem_of_getElem? h2)
  rw [List.take_append_of_le_length hm, lostC_put hc (by simpa using hf), lostC_more (fun y hy => by
    obtain ⟨d, hd, _⟩ := hG.regs y (List.mem_of_mem_take hy)
    exact (List.getElem?_eq_some_iff.1 hd).1)]
  exact ⟨e1, e2, e3, e4, e5⟩
theorem Says.put {st : List Thn} {cs : List Chu} {rs : List Reg} {ms : List Mrk} (h : Says st cs rs ms) {i b : Nat} {os : List Int} {c : Chu} (hc : cs[i]? = some c) (hb : b + os.length ≤ c.ys.length) : Says st (cput cs i b os) rs ms :=
  ⟨h.len, fun j t x h1 h2 => by
    obtain ⟨e1, e2, e3, e4, e5⟩ := h.each j t x h1 h2
    exact ⟨e1, e2, by rw [lostC_put hc hb]; exact e3, e4, e5⟩⟩
theorem Says.push {st : List Thn} {cs : List Chu} {rs : List Reg} {ms : List Mrk} (h : Says st cs rs ms) (no : Int) {t : Thn} (h1 : t.mark = no) (h2 : t.len = alen rs) (h3 : t.lost = lostC cs rs) (h4 : t.nos = nosOf rs) : Says (st ++ [t]) cs rs (ms ++ [⟨no, rs.length, tendOf rs⟩]) := by
  refine ⟨by simp [h.len], fun i u x hu hx => ?_⟩
  by_cases hi : i < st.length
  · rw [List.getElem?_append_left hi] at hu
    rw [List.getElem?_append_left (by rw [← h.len]; exact hi)] at hx
    exact h.each i u x hu hx
  · have hlu := (List.getElem?_eq_some_iff.1 hu).1
    simp only [List.length_append, List.length_singleton] at hlu
    have hi2 : i = st.length := by omega
    rw [hi2, List.getElem?_append_right (Nat.le_refl _), Nat.sub_self] at hu
    rw [hi2, List.getElem?_append_right (by rw [h.len]; exact Nat.le_refl _), h.len, Nat.sub_self] at hx
    have e1 : t = u := by simpa using hu
    have e2 : (⟨no, rs.length, tendOf rs⟩ : Mrk) = x := by simpa using hx
    subst e1; subst e2
    exact ⟨h1, by simpa using h2, by simpa using h3, by simpa using h4, by simp⟩
theorem Says.pop {st : List Thn} {S : ArS} (h : Says st S.cs S.rs S.ms) (hG : Good S) {i : Nat} {x : Mrk} (hx : S.ms[i]? = some x) : Says (st.take i) S.cs (S.rs.take x.many) (S.ms.take i) := by
  refine ⟨by simp [h.len], fun j u y hu hy => ?_⟩
  have hlu := (List.getElem?_eq_some_iff.1 hu).1
  simp only [List.length_take] at hlu
  rw [List.getElem?_take, if_pos (by omega)] at hu hy
  obtain ⟨e1, e2, e3, e4, e5⟩ := h.each j u y hu hy
  have hm : y.many ≤ x.many := by
    obtain ⟨a1, rfl⟩ := List.getElem?_eq_some_iff.1 hy
    obtain ⟨a2, rfl⟩ := List.getElem?_eq_some_iff.1 hx
    exact (List.pairwise_iff_getElem.1 hG.mono) j i a1 a2 (by omega)
  rw [List.take_take, Nat.min_eq_left hm]
  exact ⟨e1, e2, e3, e4, e5⟩

/-! ### the whole -/
structure Core (w : World) (B aa p : Nat) (k s m size : Int) (mb n : Nat) (S : ArS) (b : BookS) (q : Parts) (l : List (Int × Value)) (v : Value) (st : List Thn) : Prop where
  arena : ArenaAt w aa p 1 k s m size S
  book : BookAt w p b q
  one : One b (aroom S.cs)
  good : Good S
  map : IntMap w mb l
  youngA : ∀ j, AFoot aa S j → B ≤ j
  youngB : ∀ j, q.Foot p j → B ≤ j
  youngM : B ≤ mb
  mapB : ¬ q.Foot p mb
  lr : S.lr ≤ n
  lm : S.lm ≤ n
  stk : StkAt w B v st
structure Pure_ (S : ArS) (l : List (Int × Value)) (st : List Thn) : Prop where
  ord : Ord S.rs
  filled : Filled S.cs S.rs
  get : ∀ x ∈ S.rs, mget l x.no = some (.int .u8 (byteOf x.no))
  says : Says st S.cs S.rs S.ms

section
variable {w w' : World} {B aa p : Nat} {k s m size : Int} {mb n : Nat} {S S' : ArS} {b b' : BookS} {q q' : Parts} {l : List (Int × Value)} {v : Value} {st : List Thn}
theorem NosAt.move {t : Thn} (h : NosAt w t) (hf : ∀ (j : Nat) cur, w.heap[j]? = some (.cells cur 3) → w'.heap[j]? = w.heap[j]?) : NosAt w' t := by
  refine ⟨⟨h.1.1, h.1.2.1, fun h0 => ?_⟩, fun ad e => ?_⟩
  · obtain ⟨ad, e, hc⟩ := h.1.2.2 h0
    refine ⟨ad, e, fun j hj => ?_⟩
    obtain ⟨cur, hcur⟩ := h.2 ad e
    rw [← hc j hj]
    have hbl : (ad.add j).block = ad.block := by cases j <;> simp [Addr.add]
    simp only [World.cell?, hbl, hf _ _ hcur]
  · obtain ⟨cur, hcur⟩ := h.2 ad e
    exact ⟨cur, by rw [hf _ _ hcur]; exact hcur⟩
theorem StkAt.move (h : StkAt w B v st) (hf : ∀ (j : Nat) cur t, w.heap[j]? = some (.cells cur t) → t = 3 ∨ t = 44 → w'.heap[j]? = w.heap[j]?) : StkAt w' B v st := by
  refine ⟨own_move h.own (fun j hj => ?_), fun t ht => (h.rows t ht).move (fun j cur hc => hf j cur _ hc (.inl rfl))⟩
  obtain ⟨cur, hc⟩ := own_typed h.own j hj
  exact hf j cur _ hc (.inr rfl)
theorem Core.below (h : Core w B aa p k s m size mb n S b q l v st) (hb : Below w.heap.size w w') : Core w' B aa p k s m size mb n S b q l v st where
  arena := h.arena.below hb
  book := hB_below h.book hb
  one := h.one
  good := h.good
  map := h.map.of_heap (hb.block mb h.map.lt)
  youngA := h.youngA
  youngB := h.youngB
  youngM := h.youngM
  mapB := h.mapB
  lr := h.lr
  lm := h.lm
  stk := h.stk.move (fun j cur t hc _ => hb.block j (blk_lt hc))
theorem Core.step (h : Core w B aa p k s m size mb n S b q l v st) (hs : Step w w' aa p k s m size S q S' b' q') (one : One b' (aroom S'.cs)) (hG : Good S') (n' : Nat) (hlr : S'.lr ≤ n') (hlm : S'.lm ≤ n') (hB : B ≤ w.heap.size) : Core w' B aa p k s m size mb n' S' b' q' l v st where
  arena := hs.arena
  book := hs.book
  one := one
  good := hG
  map := h.map.of_heap (hs.upd.block mb h.map.lt (fun hj => by
    obtain ⟨es, c, hm, _⟩ := h.map
    exact hj.elim (h.arena.not_map hm) h.mapB))
  youngA := fun j hj => (hs.footA j hj).elim (h.youngA j) (fun e => Nat.le_trans hB e)
  youngB := fun j hj => (hs.footB j hj).elim (h.youngB j) (fun e => Nat.le_trans hB e)
  youngM := h.youngM
  mapB := fun hj => (hs.footB mb hj).elim h.mapB (fun e => by have := h.map.lt; omega)
  lr := hlr
  lm := hlm
  stk := h.stk.move (fun j cur t hc ht => hs.upd.block j (blk_lt hc) (fun hj => by
    rcases hj with hj | hj
    · rcases ht with rfl | rfl
      · exact h.arena.not_of hc (by decide) (by decide) (by decide) (by decide) (by decide) hj
      · exact h.arena.not_of hc (by decide) (by decide) (by decide) (by decide) (by decide) hj
    · rcases ht with rfl | rfl
      · exact not_foot h.book hc (by decide) (by decide) (by decide) (by decide) hj
      · exact not_foot h.book hc (by decide) (by decide) (by decide) (by decide) hj))
theorem Core.young (h : Core w B aa p k s m size mb n S b q l v st) {j : Nat} (hj : AFoot aa S j ∨ q.Foot p j) : B ≤ j := hj.elim (h.youngA j) (h.youngB j)
/-- What is done is done in new blocks. -/
theorem Core.upd (h : Core w B aa p k s m size mb n S b q l v st) (hs : Step w w' aa p k s m size S q S' b' q') (hB : B ≤ w.heap.size) : Below B w w' := hs.upd.below hB (fun j hj => h.young hj)
end
end Go.Proofs.Yticbjaclnneaoaa.Arena

namespace Go.Proofs.Yticbjaclnneaoaa.Arena
set_option linter.unusedVariables false
open Go.RowKit Go.Proofs.YticbjaclnneaoaaW.PrintWords Go.Proofs.YticbjaclnneaoaaW.PrintLast Go.Proofs.YticbjaclnneaoaaW.PrintMore Go.Proofs.Yticbjaclnneaoaa.Book Go.Proofs.Yticbjaclnneaoaa.Oct Go.Proofs.Yticbjaclnneaoaa.Pure Go.Proofs.Yticbjaclnneaoaa.MapInt
set_option linter.unusedSimpArgs false

section
variable {S S' : ArS} {l : List (Int × Value)} {st : List Thn}
theorem took_fits {n i b : Nat} (hT : Took S S' n i b) : ∃ c, S'.cs[i]? = some c ∧ b + n ≤ c.ys.length ∧ c.ys.length ≤ 100000 ∧ (c.ys.drop b).take n = List.replicate n 0 := by
  obtain ⟨ks, c, hc, hf, hcs⟩ := hT.cs
  have h1 : S'.cs[i]? = some ⟨c.g, c.ys.take b ++ List.replicate n 0 ++ c.ys.drop (b + n)⟩ := by
    rw [hcs, cput_get hc]
    simp
  refine ⟨_, h1, ?_, hT.good.chunk (List.mem_of_getElem? h1), ?_⟩
  · simp only [List.length_append, List.length_take, List.length_drop, List.length_replicate]; omega
  · simp only
    have l1 : (c.ys.take b).length = b := by rw [List.length_take]; omega
    rw [List.append_assoc, List.drop_append_of_le_length (by omega), List.drop_take, Nat.sub_self, List.take_zero, List.nil_append, List.take_append_of_le_length (by simp)]
    rw [List.take_of_length_le (by simp)]
/-- The region that was taken is written. -/
theorem took_pure (hP : Pure_ S l st) (hG : Good S) {n i b : Nat} (hT : Took S S' n i b) {c : Chu} (hc : S'.cs[i]? = some c) (hf : b + n ≤ c.ys.length) :
    Pure_ { S' with cs := cput S'.cs i b (List.replicate n (byteOf ((S.lr + 1 : Nat) : Int))) } (mput l ((S.lr + 1 : Nat) : Int) (.int .u8 (byteOf ((S.lr + 1 : Nat) : Int)))) st := by
  have hfl : ∀ x ∈ S.rs, x.frm ≤ x.tt := fun x hx => (hG.reg hx).1
  obtain ⟨ks, c0, hc0, hf0, hcs⟩ := hT.cs
  have hbh := hP.ord.behind hfl hT.behind
  refine ⟨?_, ?_, ?_, ?_⟩
  · simp only
    rw [hT.rs]
    exact hP.ord.snoc hfl hT.behind
  · simp only
    rw [hT.rs]
    intro x hx
    rcases List.mem_append.1 hx with hx | hx
    · have h1 : Filled (S.cs ++ ks) S.rs := hP.filled.more (fun y hy => by
        obtain ⟨d, hd, _⟩ := hG.regs y hy
        exact (List.getElem?_eq_some_iff.1 hd).1) ks
      have h2 : Filled S'.cs S.rs := by
        rw [hcs]
        exact h1.put hbh _ (fun d hd => by
          obtain rfl := Option.some.inj (hc0.symm.trans hd)
          simpa using hf0)
      exact h2.put hbh _ (fun d hd => by
        obtain rfl := Option.some.inj (hc.symm.trans hd)
        simpa using hf) x hx
    · rw [List.mem_singleton.1 hx]
      exact holds_put hc hf
  · intro x hx
    simp only at hx
    rw [hT.rs] at hx
    rcases List.mem_append.1 hx with hx | hx
    · rw [mget_mput_other _ _ _ _ (by have := (hG.nol x hx).2; omega)]
      exact hP.get x hx
    · rw [List.mem_singleton.1 hx]
      exact mget_mput_same _ _ _
  · exact (hP.says.took hG hT).put hc (by simpa using hf)
theorem marked_pure (hP : Pure_ S l st) (mv : Value) (t : Thn) (h1 : t.mark = ((S.lm + 1 : Nat) : Int)) (h2 : t.len = alen S.rs) (h3 : t.lost = lostOf S) (h4 : t.nos = nosOf S.rs) :
    Pure_ { S with mv := mv, lm := S.lm + 1, ms := S.ms ++ [⟨((S.lm + 1 : Nat) : Int), S.rs.length, tendOf S.rs⟩] } l (st ++ [t]) :=
  ⟨hP.ord, hP.filled, hP.get, hP.says.push _ h1 h2 h3 h4⟩
theorem released_pure (hP : Pure_ S l st) (hG : Good S) {i : Nat} {x : Mrk} (hx : S.ms[i]? = some x) (rv mv : Value) : Pure_ { S with rv := rv, rs := S.rs.take x.many, mv := mv, ms := S.ms.take i } l (st.take i) :=
  ⟨hP.ord.take _, hP.filled.take _, fun y hy => hP.get y (List.mem_of_mem_take hy), hP.says.pop hG hx⟩
theorem tend_ok (hP : Pure_ S l st) {i : Nat} {x : Mrk} {t : Thn} (ht : st[i]? = some t) (hx : S.ms[i]? = some x) : ∀ y, (S.rs.take x.many).getLast? = some y → y.tt = x.tend := fun y hy => by
  rw [(hP.says.each i t x ht hx).2.2.2.2]
  unfold tendOf
  rw [hy]
end
/-- The stack with one entry more. -/
theorem StkAt.push {w w1 : World} {B : Nat} {v v' : Value} {st : List Thn} {t : Thn} (h : StkAt w1 B v st) (ho : w.ownsRow B 44 4 v' (st.length + 1) (rowsOf Thn.cells st ++ t.cells)) (hr : ∀ u ∈ st, NosAt w u) (ht : NosAt w t) : StkAt w B v' (st ++ [t]) where
  own := by
    rw [rowsOf_app, rowsOf_single, List.length_append, List.length_singleton]
    exact ho
  rows := fun u hu => by
    rcases List.mem_append.1 hu with hu | hu
    · exact hr u hu
    · rw [List.mem_singleton.1 hu]
      exact ht
theorem StkAt.pop {w : World} {B n cap : Nat} {A : Option Addr} {st : List Thn} (h : StkAt w B (.slice A n cap) st) (hn : n = st.length) (i : Nat) (hi : i ≤ n) : StkAt w B (.slice A i cap) (st.take i) where
  own := by
    have h1 := h.own
    rw [← hn] at h1
    have h2 := own_cut thn4 h1 i hi hn.symm
    rw [List.length_take, ← hn, Nat.min_eq_left hi]
    exact h2
  rows := fun u hu => h.rows u (List.mem_of_mem_take hu)
theorem byteOf_wrap (n : Int) (h0 : 0 ≤ n) : IntKind.u8.wrap n = byteOf n := by
  unfold byteOf
  simp [IntKind.wrap, IntKind.min, IntKind.max, IntKind.bits, IntKind.signed]
end Go.Proofs.Yticbjaclnneaoaa.Arena

namespace Go.Proofs.Yticbjaclnneaoaa.Arena
set_option linter.unusedVariables false
open Go.RowKit Go.Proofs.YticbjaclnneaoaaW.PrintWords Go.Proofs.YticbjaclnneaoaaW.PrintLast Go.Proofs.YticbjaclnneaoaaW.PrintMore Go.Proofs.Yticbjaclnneaoaa.Book Go.Proofs.Yticbjaclnneaoaa.Oct Go.Proofs.Yticbjaclnneaoaa.Pure Go.Proofs.Yticbjaclnneaoaa.MapInt
set_option linter.unusedSimpArgs false

theorem infoT : (Try.prog.info? 44).map (fun i => (i.zero, i.size, i.bytes)) = some (some (.agg #[.int .i64 0, .int .i64 0, .int .i64 0, .slice none 0 0]), 4, 48) := by kernel_rfl
/-- A block of another type stays. -/
theorem Step.stays {w w2 : World} {aa p : Nat} {k s m size : Int} {S S2 : ArS} {q q2 : Parts} {b b2 : BookS} (h : Step w w2 aa p k s m size S q S2 b2 q2) (hA : ArenaAt w aa p 1 k s m size S) (hB : BookAt w p b q) {j : Nat} {cur : Array Value} {t : TypeId} (hc : w.heap[j]? = some (.cells cur t)) (ht : t = 37 ∨ t = 3 ∨ t = 44) : w2.heap[j]? = some (.cells cur t) := by
  refine (h.upd.block _ (blk_lt hc) ?_).trans hc
  rintro (hj | hj)
  · rcases ht with rfl | rfl | rfl <;> exact hA.not_of hc (by decide) (by decide) (by decide) (by decide) (by decide) hj
  · rcases ht with rfl | rfl | rfl <;> exact not_foot hB hc (by decide) (by decide) (by decide) (by decide) hj

section
variable {w W w' : World} {B aa p : Nat} {k s m size : Int} {mb n : Nat} {S S' : ArS} {b b' : BookS} {q q' : Parts} {l l' : List (Int × Value)} {v v' : Value} {st : List Thn}
/-- One entry more on the stack. -/
theorem Core.pushed (h : Core w B aa p k s m size mb n S b q l v st) (hW : Below w.heap.size w W) (hg : W.grownBy w' v.ownBlock) {t : Thn} (ho : w'.ownsRow B 44 4 v' (st.length + 1) (rowsOf Thn.cells st ++ t.cells)) (hN : NosAt W t) (hB : B ≤ w.heap.size) : Core w' B aa p k s m size mb n S b q l v' (st ++ [t]) ∧ Below B w w' := by
  have hW2 := h.below hW
  have hty : ∀ j, some j = v.ownBlock → ∃ cur, W.heap[j]? = some (.cells cur 44) := fun j hj => own_typed hW2.stk.own j hj.symm
  have hfA : ∀ j, AFoot aa S j → w'.heap[j]? = W.heap[j]? := fun j hj => hg.block j (hW2.arena.lt hj) (fun e => by
    obtain ⟨cur, hc⟩ := hty j e
    exact hW2.arena.not_of hc (by decide) (by decide) (by decide) (by decide) (by decide) hj)
  have hfB : ∀ j, q.Foot p j → w'.heap[j]? = W.heap[j]? := fun j hj => hg.block j (hW2.book.lt hj) (fun e => by
    obtain ⟨cur, hc⟩ := hty j e
    exact not_foot hW2.book hc (by decide) (by decide) (by decide) (by decide) hj)
  have hfI : ∀ (j : Nat) cur, W.heap[j]? = some (.cells cur 3) → w'.heap[j]? = W.heap[j]? := fun j cur hc => hg.block j (blk_lt hc) (fun e => by
    obtain ⟨cur', hc'⟩ := hty j e
    rw [hc] at hc'
    injection hc' with hc'
    injection hc' with _ hc' _
    exact absurd hc' (by decide))
  refine ⟨⟨hW2.arena.frame hfA, hW2.book.frame hfB, h.one, h.good, hW2.map.of_heap (hg.block mb hW2.map.lt (fun e => ?_)), h.youngA, h.youngB, h.youngM, h.mapB, h.lr, h.lm, ?_⟩, pw_below_grown (hW.mono hB) _ (Nat.le_trans hB hW.size) hg (fun j hj => own_low h.stk.own j hj)⟩
  · obtain ⟨cur, hc⟩ := hty mb e
    obtain ⟨es, c, hm, _⟩ := hW2.map
    rw [hc] at hm
    cases hm
  · exact StkAt.push hW2.stk ho (fun u hu => (hW2.stk.rows u hu).move hfI) (hN.move hfI)
/-- The map is written. -/
theorem Core.mapped (h : Core w B aa p k s m size mb n S b q l v st) (hm : IntMap w' mb l') (hg : w.grownBy w' (some mb)) (hB : B ≤ w.heap.size) : Core w' B aa p k s m size mb n S b q l' v st ∧ Below B w w' := by
  obtain ⟨es, c, hmm, _⟩ := h.map
  refine ⟨⟨h.arena.frame (fun j hj => hg.block j (h.arena.lt hj) (fun e => ?_)), h.book.frame (fun j hj => hg.block j (h.book.lt hj) (fun e => ?_)), h.one, h.good, hm, h.youngA, h.youngB, h.youngM, h.mapB, h.lr, h.lm, h.stk.move (fun j cur t hc _ => hg.block j (blk_lt hc) (fun e => ?_))⟩, pw_below_grown (Below.refl B w) _ hB hg (fun j hj => by
      have : mb = j := by simpa using hj
      rw [← this]; exact h.youngM)⟩
  · injection e with e
    rw [e] at hj
    exact h.arena.not_map hmm hj
  · injection e with e
    rw [e] at hj
    exact h.mapB hj
  · injection e with e
    rw [e, hmm] at hc
    cases hc
/-- Octets are written. -/
theorem Core.wrote (h : Core w B aa p k s m size mb n S b q l v st) {i bb : Nat} {os : List Int} {c : Chu} (hc : S.cs[i]? = some c) (hb : bb + os.length ≤ c.ys.length) (hr : Row w' c.g (c.ys.take bb ++ os ++ c.ys.drop (bb + os.length))) (hu : Upd (fun j => j = c.g) w w') (hB : B ≤ w.heap.size) :
    Core w' B aa p k s m size mb n { S with cs := cput S.cs i bb os } b q l v st ∧ Below B w w' := by
  obtain ⟨a1, a2, a3⟩ := h.arena.wrote hc hb hr hu
  have hst : Step w w' aa p k s m size S q { S with cs := cput S.cs i bb os } b q := (Step.refl h.arena h.book).arena_only a1 a2 (fun j hj => .inl (a3 j hj))
  refine ⟨h.step hst ?_ (h.good.put hc hb) n h.lr h.lm hB, h.upd hst hB⟩
  simp only
  rw [cput_aroom hc hb]
  exact h.one
theorem Core.more (h : Core w B aa p k s m size mb n S b q l v st) (n' : Nat) (hn : n ≤ n') : Core w B aa p k s m size mb n' S b q l v st :=
  ⟨h.arena, h.book, h.one, h.good, h.map, h.youngA, h.youngB, h.youngM, h.mapB, Nat.le_trans h.lr hn, Nat.le_trans h.lm hn, h.stk⟩
theorem Core.popped {N cap : Nat} {A : Option Addr} (h : Core w B aa p k s m size mb n S b q l (.slice A N cap) st) (hN : N = st.length) (i : Nat) (hi : i ≤ N) : Core w B aa p k s m size mb n S b q l (.slice A i cap) (st.take i) :=
  ⟨h.arena, h.book, h.one, h.good, h.map, h.youngA, h.youngB, h.youngM, h.mapB, h.lr, h.lm, h.stk.pop hN i hi⟩
end
theorem shape_of {w : World} {B : Nat} {v : Value} {st : List Thn} (h : StkAt w B v st) : ∃ A cap, v = .slice A st.length cap ∧ st.length ≤ cap := own_shape h.own
/-- The numbers of the regions, as they were handed out. -/
theorem nosAt_of {w : World} {B : Nat} {A : Option Addr} {n cap : Nat} {no len lost : Int} {nos : List Int} (hr : ReadsInt w .i64 A n nos) (ho : w.ownsRow B 3 1 (.slice A n cap) n (litsI nos)) : NosAt w ⟨no, len, lost, A, n, cap, nos⟩ :=
  ⟨hr, fun ad e => by
    simp only at e
    subst e
    exact own_typed ho ad.block rfl⟩
theorem NosAt.below {w w' : World} {t : Thn} (h : NosAt w t) (hb : Below w.heap.size w w') : NosAt w' t := h.move (fun j cur hc => hb.block j (blk_lt hc))
theorem put_next {ys : List Int} {b k : Nat} (v : Int) (h : b + k < ys.length) : (ys.take b ++ List.replicate k v ++ ys.drop (b + k)).set (b + k) v = ys.take b ++ List.replicate (k + 1) v ++ ys.drop (b + (k + 1)) := by
  have l1 : (ys.take b ++ List.replicate k v).length = b + k := by simp; omega
  rw [List.set_append_right _ _ (by omega), l1, Nat.sub_self, List.drop_eq_getElem_cons h, List.set_cons_zero, List.replicate_succ']
  simp [Nat.add_assoc]
theorem put_len' {ys : List Int} {b k : Nat} (v : Int) (h : b + k ≤ ys.length) : (ys.take b ++ List.replicate k v ++ ys.drop (b + k)).length = ys.length := by
  simp; omega
end Go.Proofs.Yticbjaclnneaoaa.Arena
