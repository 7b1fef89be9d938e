/- The reference's Cells: pairs of slices that show the same. -/
import Derived.Test.YtancgipidbojkaaBook
import Derived.Test.YtancgipidbojkaaPRoomMakesx1
import Derived.ArgAppend
import Derived.BigRegion
namespace Go.Proofs.Ytancgipidbojkaa.Twin
open Go.RowKit Go.Proofs.YtancgipidbojkaaW.PrintWords Go.Proofs.YtancgipidbojkaaW.PrintLast Go.Proofs.YtancgipidbojkaaW.PrintMore
set_option linter.unusedSimpArgs false

/-- A slice of the program's and the reference's of the same length and room. -/
structure Pair where
  A : Option Addr
  B : Option Addr
  n : Nat
  cap : Nat
def Pair.own (p : Pair) : Value := .slice p.A p.n p.cap
def Pair.want (p : Pair) : Value := .slice p.B p.n p.cap
def pos (A : Option Addr) (j : Nat) : Option Addr := A.map (·.add j)

/-- Octets, up to the room, in a block that is not older than base. -/
structure Oct (w : World) (base : Nat) (A : Option Addr) (cap : Nat) (xs : List Int) : Prop where
  reads : ReadsInt w .u8 A cap xs
  lies : 0 < cap → ∃ g o cs, A = some ⟨g, o, none⟩ ∧ base ≤ g ∧ w.heap[g]? = some (.cells cs 5)

structure Twins (w : World) (base : Nat) (L : List Pair) : Prop where
  fits : ∀ p ∈ L, p.n ≤ p.cap
  shows : ∀ p ∈ L, ∃ xs, Oct w base p.A p.cap xs ∧ Oct w base p.B p.cap xs
  apart : ∀ p ∈ L, ∀ q ∈ L, ∀ j k, j < p.cap → k < q.cap → pos p.A j ≠ pos q.B k
  alike : ∀ p ∈ L, ∀ q ∈ L, ∀ j k, j < p.cap → k < q.cap → (pos p.A j = pos q.A k ↔ pos p.B j = pos q.B k)

structure CellsAt (w : World) (base p : Nat) (L : List Pair) (OA WA : Option Addr) (oc wc : Nat) : Prop where
  box : w.heap[p]? = some (.cells #[.slice OA L.length oc, .slice WA L.length wc] 31)
  own : w.ownsRow base 28 1 (.slice OA L.length oc) L.length (L.map Pair.own)
  want : w.ownsRow base 28 1 (.slice WA L.length wc) L.length (L.map Pair.want)
  twins : Twins w base L
  young : base ≤ p
  parted : (Value.slice OA L.length oc).ownBlock ≠ (Value.slice WA L.length wc).ownBlock ∨ OA = none

theorem own_cell {w : World} {base e n cap : Nat} {A : Option Addr} {xs : List Value} (h : w.ownsRow base e 1 (.slice A n cap) n xs) (k : Nat) (hk : k < n) :
    ∃ g, A = some ⟨g, 0, none⟩ ∧ w.cell? ⟨g, k, none⟩ = xs[k]? := by
  obtain ⟨hl, ⟨_, h0⟩ | ⟨g, c, cur, hv, _, hb, hc, _, hs, ht⟩⟩ := h
  · omega
  · obtain ⟨rfl, -, rfl⟩ : A = some ⟨g, 0, none⟩ ∧ n = n ∧ cap = c := by simpa using hv
    refine ⟨g, rfl, ?_⟩
    rw [blk_cell hb k, ← ht]
    simp only [Nat.mul_one]
    rw [List.getElem?_take_of_lt hk]
    simp
theorem CellsAt.pair {w : World} {base p : Nat} {L : List Pair} {OA WA : Option Addr} {oc wc : Nat} (h : CellsAt w base p L OA WA oc wc) (k : Nat) (hk : k < L.length) :
    ∃ g g' P, OA = some ⟨g, 0, none⟩ ∧ WA = some ⟨g', 0, none⟩ ∧ P ∈ L ∧ w.cell? ⟨g, k, none⟩ = some (.slice P.A P.n P.cap) ∧ w.cell? ⟨g', k, none⟩ = some (.slice P.B P.n P.cap) := by
  obtain ⟨g, e1, h1⟩ := own_cell h.own k hk
  obtain ⟨g', e2, h2⟩ := own_cell h.want k hk
  refine ⟨g, g', L[k], e1, e2, List.getElem_mem _, ?_, ?_⟩
  · rw [h1, List.getElem?_map, List.getElem?_eq_getElem hk]; rfl
  · rw [h2, List.getElem?_map, List.getElem?_eq_getElem hk]; rfl

theorem wrap_ok (i : Int) (h0 : -9223372036854775808 ≤ i) (h1 : i ≤ 9223372036854775807) : wrap64 i = i := by
  unfold wrap64; omega
theorem equal_l (l : List Int) (hl : l.length ≤ 4611686018427387904) (d : Nat) : ∀ (k : Nat) (i : Int), 0 ≤ i → i ≤ l.length → (l.length : Int) - i = d → d < k →
    PRoomMakes.slices_Equal_byte_byte.l0 k l l (l.length : Int) i = some true := by
  induction d with
  | zero =>
    intro k i h0 h1 hd hk
    obtain ⟨k, rfl⟩ : ∃ m, k = m + 1 := ⟨k - 1, by omega⟩
    simp only [PRoomMakes.slices_Equal_byte_byte.l0]
    rw [if_neg (by omega)]
  | succ d ih =>
    intro k i h0 h1 hd hk
    obtain ⟨k, rfl⟩ : ∃ m, k = m + 1 := ⟨k - 1, by omega⟩
    simp only [PRoomMakes.slices_Equal_byte_byte.l0]
    rw [if_pos (by omega), if_pos h0, if_pos (by omega), if_pos (by omega), if_pos trivial, wrap_ok _ (by omega) (by omega)]
    exact ih k (i + 1) (by omega) (by omega) (by omega) (by omega)
theorem equalBytes (A0 A1 : Option Addr) (n c0 c1 : Nat) (xs : List Int) (w : World) (hx : n ≤ 4611686018427387904) (h0 : ReadsInt w .u8 A0 n xs) (hc0 : n ≤ c0) (h1 : ReadsInt w .u8 A1 n xs) (hc1 : n ≤ c1) :
    Calls Try.prog 48 #[.slice A0 n c0, .slice A1 n c1] w fun e w' => e = .returned (.bool true) ∧ ∃ m, w' = w.drewN m := by
  obtain rfl := h0.1
  refine (PRoomMakes.slices_Equal_byte_byte.calls (xs.length + 1) A0 c0 xs A1 c1 xs true w (Kd.C_of_reads h0) hc0 (Kd.C_of_reads h1) hc1 ?_).mono fun e w' ⟨he, hd⟩ => ⟨he, hd.out⟩
  unfold PRoomMakes.slices_Equal_byte_byte.f
  rw [if_pos rfl]
  exact equal_l xs hx xs.length _ 0 (by omega) (by omega) (by omega) (by omega)

theorem Oct.below {w w1 : World} {base : Nat} {A : Option Addr} {cap : Nat} {xs : List Int} (h : Oct w base A cap xs) (hb : Below w.heap.size w w1) : Oct w1 base A cap xs :=
  ⟨h.reads.below hb, fun hc => by
    obtain ⟨g, o, cs, e, hg, hh⟩ := h.lies hc
    exact ⟨g, o, cs, e, hg, (hb.block g (blk_lt hh)).trans hh⟩⟩

theorem Twins.below {w w1 : World} {base : Nat} {L : List Pair} (h : Twins w base L) (hb : Below w.heap.size w w1) : Twins w1 base L :=
  ⟨h.fits, fun p hp => by obtain ⟨xs, h1, h2⟩ := h.shows p hp; exact ⟨xs, h1.below hb, h2.below hb⟩, h.apart, h.alike⟩
theorem ownsRow_below {w w1 : World} {base e size n : Nat} {v : Value} {xs : List Value} (h : w.ownsRow base e size v n xs) (hb : Below w.heap.size w w1) : w1.ownsRow base e size v n xs := by
  obtain ⟨hl, h | ⟨g, c, cur, hv, h1, h2, h3⟩⟩ := h
  · exact ⟨hl, .inl h⟩
  · exact ⟨hl, .inr ⟨g, c, cur, hv, h1, (hb.block g (blk_lt h2)).trans h2, h3⟩⟩
theorem CellsAt.below {w w1 : World} {base p : Nat} {L : List Pair} {OA WA : Option Addr} {oc wc : Nat} (h : CellsAt w base p L OA WA oc wc) (hb : Below w.heap.size w w1) : CellsAt w1 base p L OA WA oc wc :=
  ⟨(hb.block p (blk_lt h.box)).trans h.box, ownsRow_below h.own hb, ownsRow_below h.want hb, h.twins.below hb, h.young, h.parted⟩
theorem CellsAt.f0 {w : World} {base p : Nat} {L : List Pair} {OA WA : Option Addr} {oc wc : Nat} (h : CellsAt w base p L OA WA oc wc) : w.cell? ⟨p, 0, none⟩ = some (.slice OA L.length oc) := by rw [blk_cell h.box]; rfl
theorem CellsAt.f1 {w : World} {base p : Nat} {L : List Pair} {OA WA : Option Addr} {oc wc : Nat} (h : CellsAt w base p L OA WA oc wc) : w.cell? ⟨p, 1, none⟩ = some (.slice WA L.length wc) := by rw [blk_cell h.box]; rfl

set_option maxHeartbeats 1000000 in
set_option maxRecDepth 100000 in
theorem same (p : Nat) (L : List Pair) (base : Nat) (OA WA : Option Addr) (oc wc : Nat) (w : World) (h : CellsAt w base p L OA WA oc wc) (hL : L.length ≤ 1000000) (hcap : ∀ P ∈ L, P.cap ≤ 4611686018427387904) :
    Calls Try.prog 52 #[.pointer (some ⟨p, 0, none⟩)] w fun e w' => e = .returned (.bool true) ∧ ∃ m, w' = w.drewN m := by
  have hf0 := h.f0
  have H := Aside0.mk h
  clear h
  have HC := Lib.hid hcap
  clear hcap
  go_enter Try.func52, Try.ntmps52
  go_wp2
  go_loopw [3, 4, 5, 11] (fun _ _ _ i (wr : World) => ∃ k : Nat, k ≤ L.length ∧ i = .int .i64 k ∧ Aside0 (∃ m, wr = w.drewN m)) (fun _ _ _ i _ => L.length - (intOf i).toNat)
  case atStart => exact ⟨0, by omega, rfl, ⟨0, rfl⟩⟩
  case round =>
    obtain ⟨k, hk, rfl, HW⟩ := hrel
    have hbl : Below w.heap.size w wr := by obtain ⟨m, rfl⟩ := HW.out; exact pw_below_drewN (Below.refl _ w) m
    have H' := Aside0.mk (H.out.below hbl)
    clear hbl
    have hg1 := H'.out.f1
    clear hf0
    by_cases hlt : k < L.length
    · obtain ⟨g, g', P, rfl, rfl, hP, h1, h2⟩ := H'.out.pair k hlt
      obtain ⟨xs, hx1, hx2⟩ := H'.out.twins.shows P hP
      have hfit := H.out.twins.fits P hP
      have hcp := HC.out P hP
      have HX1 := Aside0.mk hx1
      have HX2 := Aside0.mk hx2
      have HP := Lib.hid hP
      clear hx1 hx2 hP
      go_wp2
      go_quiet ((exact Calls.quiet_of (equalBytes P.A P.B P.cap P.cap P.cap xs _ hcp (HX1.out.reads.drewN _) (Nat.le_refl _) (HX2.out.reads.drewN _) (Nat.le_refl _))))
      go_wp2
      refine ⟨⟨k + 1, by omega, by simp, ⟨?_⟩⟩, ?_⟩
      · obtain ⟨m, rfl⟩ := HW.out
        exact ⟨_, World.drewN_drewN ..⟩
      · show L.length - ((k : Int) + 1).toNat < L.length - (k : Int).toNat
        omega
    · obtain rfl : k = L.length := by omega
      go_wp2
      go_ret
      exact ⟨rfl, HW.out⟩
theorem infoU8 : (Try.prog.info? 5).map (fun i => (i.zero, i.size, i.bytes)) = some (some (.int .u8 0), 1, 1) := by kernel_rfl
theorem below_of_grown {w w' : World} (h : w.grownBy w' none) : Below w.heap.size w w' := ⟨h.os, h.tape, h.output, h.size, fun k hk => h.block k hk (by simp)⟩

theorem add_zero' (g j : Nat) : (⟨g, 0, none⟩ : Addr).add j = ⟨g, j, none⟩ := by
  cases j <;> simp [Addr.add]

def lits8 (xs : List Int) : List Value := xs.map (.int .u8)
theorem lits8_get (xs : List Int) (j : Nat) (h : j < xs.length) : (lits8 xs)[j]? = some (.int .u8 (xs.getD j 0)) := by
  unfold lits8
  rw [List.getElem?_map, List.getD_eq_getElem?_getD, List.getElem?_eq_getElem h]; rfl

/-- Three octets appended to a slice without room. -/
theorem append3 (W : World) {ops : Array Oper} {rest : List Oper} {o : Oper} {a : Act} {Q : Exit → Act → World → Prop} (hg : o.guard = none) (s x : Operand)
    (hop : o.op = Op.call { callee := Callee.builtin Builtin.append, args := #[s, x], argTypes := #[28, 28] })
    (A : Option Addr) (n : Nat) (xs : List Int) (hs : a.eval s = .slice A n n) (hr : ReadsInt W .u8 A n xs) (g0 : Nat) (hx : a.eval x = .slice (some ⟨g0, 0, none⟩) 3 3)
    (hb : W.heap[g0]? = some (.cells #[.int .u8 1, .int .u8 2, .int .u8 3] 5)) (hn : n ≤ 100000000000)
    (hK : ∀ g cap w', Aside0 (ReadsInt w' .u8 (some ⟨g, 0, none⟩) (n + 3) (xs ++ [1, 2, 3])) → n + 3 ≤ cap → Aside0 (Below W.heap.size W w') → wpList Try.prog ops Q rest (a.put o.dst (.slice (some ⟨g, 0, none⟩) (n + 3) cap)) w') :
    wpList Try.prog ops Q (o :: rest) a W := by
  obtain ⟨i0, hi, hz0, hz1, hz2⟩ := info_parts infoU8
  refine wpList_append_grows W hg s x 28 hop 5 i0 (.int .u8 0) 1 1 Try.underlying28 hi hz0 hz1 hz2 rfl (by decide) A n n (lits8 xs) hs (fun h => ?_) ?_ (fun b h j u hj => ?_) ⟨g0, 0, none⟩ 3 3 (lits8 [1, 2, 3]) hx rfl (fun j u hj => ?_) (by simp [lits8, Value.oneCell']) (by omega) (by simp only [maxLen]; omega) (by omega) ?_
  · by_cases h0 : 0 < n
    · obtain ⟨ad, e, _⟩ := hr.2.2 h0
      rw [h] at e; cases e
    · exact ⟨by omega, by omega⟩
  · simp [lits8, hr.1]
  · have hl : j < (lits8 xs).length := by
      by_cases hc : j < (lits8 xs).length
      · exact hc
      · rw [List.getElem?_eq_none (by omega)] at hj; cases hj
    have hl' : j < xs.length := by simpa [lits8] using hl
    have := hr.1
    obtain ⟨ad, e, hc⟩ := hr.2.2 (by omega)
    rw [h] at e
    cases e
    rw [hc j (by omega), ← hj, lits8_get xs j hl']
  · have : j < 3 := by
      by_cases hc : j < 3
      · exact hc
      · rw [List.getElem?_eq_none (by simp [lits8]; omega)] at hj; cases hj
    have e : (⟨g0, 0, none⟩ : Addr).add j = ⟨g0, j, none⟩ := add_zero' g0 j
    rw [e, blk_cell hb, ← hj]
    match j, this with
    | 0, _ => rfl
    | 1, _ => rfl
    | 2, _ => rfl
  · intro v' w' ho hgr
    obtain ⟨hl, ⟨_, h0⟩ | ⟨g, cap, cur, rfl, h1, h2, h3, h4, h5, h6⟩⟩ := ho
    · omega
    · refine hK g cap w' ⟨?_⟩ h3 ⟨below_of_grown hgr⟩
      refine ⟨by simp [hr.1], by omega, fun _ => ⟨_, rfl, fun j hj => ?_⟩⟩
      obtain ⟨g', e, hc⟩ := own_cell ⟨hl, .inr ⟨g, cap, cur, rfl, h1, h2, h3, h4, h5, h6⟩⟩ j hj
      cases e
      have e : (⟨g, 0, none⟩ : Addr).add j = ⟨g, j, none⟩ := add_zero' g j
      rw [e, hc]
      have : lits8 xs ++ lits8 [1, 2, 3] = lits8 (xs ++ [1, 2, 3]) := by simp [lits8]
      rw [this, lits8_get]
      simp [hr.1]; omega

set_option maxHeartbeats 2000000 in
set_option maxRecDepth 100000 in
theorem appends (p : Nat) (L : List Pair) (base : Nat) (OA WA : Option Addr) (oc wc : Nat) (w : World) (h : CellsAt w base p L OA WA oc wc) (hL : L.length ≤ 1000000) (hcap : ∀ P ∈ L, P.cap ≤ 4611686018427387904) (hfen : ∀ P ∈ L, P.n = P.cap → P.cap ≤ 100000000000) :
    Calls Try.prog 56 #[.pointer (some ⟨p, 0, none⟩)] w fun e w' => e = .returned (.bool true) ∧ Below w.heap.size w w' := by
  have hf0 := h.f0
  have H := Aside0.mk h
  clear h
  have HC := Lib.hid hcap
  have HF := Lib.hid hfen
  clear hcap hfen
  go_enter Try.func56, Try.ntmps56
  go_wp2
  go_loopw [3, 4, 5, 11] (fun _ _ _ i (wr : World) => ∃ k : Nat, k ≤ L.length ∧ i = .int .i64 k ∧ Aside0 (Below w.heap.size w wr)) (fun _ _ _ i _ => L.length - (intOf i).toNat)
  case atStart => exact ⟨0, by omega, rfl, ⟨Below.refl _ _⟩⟩
  case round =>
    obtain ⟨k, hk, rfl, HB⟩ := hrel
    have H' := Aside0.mk (H.out.below HB.out)
    have hg1 := H'.out.f1
    clear hf0
    by_cases hlt : k < L.length
    · obtain ⟨g, g', P, rfl, rfl, hP, h1, h2⟩ := H'.out.pair k hlt
      obtain ⟨xs, hx1, hx2⟩ := H'.out.twins.shows P hP
      have hfit := H.out.twins.fits P hP
      have HX1 := Aside0.mk hx1
      have HX2 := Aside0.mk hx2
      have HP := Lib.hid hP
      clear hx1 hx2 hP
      by_cases hfull : P.n = P.cap
      · have hsm := HF.out P HP.out hfull
        obtain ⟨A, B, n, cap⟩ := P
        simp only at hfull h1 h2 hfit HX1 HX2 hsm
        subst hfull
        go_wp2_with (first | ((with_reducible refine gate_builtin (b := .append) (xs := #[.tmp 35, .tmp 36]) rfl ?_); at_builtin; refine append3 _ rfl (.tmp 35) (.tmp 36) rfl A n xs rfl (HX1.out.reads.below (below_alloc (Below.refl _ _) _)) _ rfl (blk_new _ _) hsm ?_; intro ga ca w2 hra hca hba) | ((with_reducible refine gate_builtin (b := .append) (xs := #[.tmp 38, .tmp 39]) rfl ?_); at_builtin; refine append3 _ rfl (.tmp 38) (.tmp 39) rfl B n xs rfl (((HX2.out.reads.below (below_alloc (Below.refl _ _) _)).below hba.out).below (below_alloc (Below.refl _ _) _)) _ rfl (blk_new _ _) hsm ?_; intro gb cb w3 hrb hcb hbb))
        have e1 := below_alloc (o := .cells #[.int .u8 1, .int .u8 2, .int .u8 3] 5) HB.out
        have e2 := below_then e1 e1.size hba.out
        have e3 := below_alloc (o := .cells #[.int .u8 1, .int .u8 2, .int .u8 3] 5) e2
        have e4 := below_then e3 e3.size hbb.out
        have HB3 := Aside0.mk e4
        have HB2 := Aside0.mk (below_then (below_alloc (o := .cells #[.int .u8 1, .int .u8 2, .int .u8 3] 5) (Below.refl _ w2)) (below_alloc (Below.refl _ _) _).size hbb.out)
        clear e1 e2 e3 e4
        refine (equalBytes (some ⟨ga, 0, none⟩) (some ⟨gb, 0, none⟩) (n + 3) ca cb (xs ++ [1, 2, 3]) w3 (by omega) (hra.out.below HB2.out) hca hrb.out hcb).mono ?_
        rintro e w4 ⟨rfl, hw4⟩
        have HB4 : Aside0 (Below w.heap.size w w4) := by obtain ⟨m, rfl⟩ := hw4; exact ⟨pw_below_drewN HB3.out m⟩
        clear hw4
        go_wp2_with fail
        refine (same p L base _ _ oc wc w4 (H.out.below HB4.out) hL HC.out).mono ?_
        rintro e w5 ⟨rfl, hw5⟩
        have HB5 : Aside0 (Below w.heap.size w w5) := by obtain ⟨m, rfl⟩ := hw5; exact ⟨pw_below_drewN HB4.out m⟩
        clear hw5
        go_wp2_with fail
        refine ⟨⟨k + 1, by omega, by simp, HB5⟩, ?_⟩
        · show L.length - ((k : Int) + 1).toNat < L.length - (k : Int).toNat
          omega
      · have hd : decide ((P.n : Int) = (P.cap : Int)) = false := by simp; omega
        have hd2 : ((P.n : Int) == (P.cap : Int)) = false := by simp; omega
        go_wp2
        refine ⟨⟨k + 1, by omega, by simp, HB⟩, ?_⟩
        · show L.length - ((k : Int) + 1).toNat < L.length - (k : Int).toNat
          omega
    · obtain rfl : k = L.length := by omega
      go_wp2
      go_ret
      exact ⟨rfl, HB.out⟩

/-! ### a write into both of a pair -/
theorem blk_any {w : World} {g : Nat} {t : TypeId} {cs : Array Value} (h : w.heap[g]? = some (.cells cs t)) (q : Addr) (v : Value) : ∃ cs', (w.setCell q v).heap[g]? = some (.cells cs' t) := by
  simp only [World.setCell, Array.getElem?_modify, h]
  by_cases e : q.block = g
  · rw [if_pos e]; exact ⟨_, rfl⟩
  · rw [if_neg e]; exact ⟨_, rfl⟩

theorem Oct.set {w : World} {base : Nat} {A : Option Addr} {cap : Nat} {xs : List Int} (h : Oct w base A cap xs) (q : Addr) (hq : (w.cell? q).isSome = true) (x : Int) :
    ∃ ys, Oct (w.setCell q (.int .u8 x)) base A cap ys ∧ ∀ j, j < cap → ys.getD j 0 = if pos A j = some q then x else xs.getD j 0 := by
  have hg : ∀ j, j < cap → ((List.range cap).map fun j => if pos A j = some q then x else xs.getD j 0).getD j 0 = if pos A j = some q then x else xs.getD j 0 := by
    intro j hj
    rw [List.getD_eq_getElem?_getD, List.getElem?_map, List.getElem?_range hj]; rfl
  refine ⟨(List.range cap).map fun j => if pos A j = some q then x else xs.getD j 0, ⟨⟨by simp, h.reads.2.1, fun h0 => ?_⟩, fun h0 => ?_⟩, hg⟩
  · obtain ⟨ad, e, hc⟩ := h.reads.2.2 h0
    refine ⟨ad, e, fun j hj => ?_⟩
    rw [hg j hj]
    subst e
    show _ = some (Value.int .u8 (if some (ad.add j) = some q then x else xs.getD j 0))
    by_cases hh : ad.add j = q
    · subst hh
      rw [if_pos rfl, World.cell?_setCell_same' _ _ _ hq]
    · rw [if_neg (fun e => hh (Option.some.inj e)), World.cell?_setCell_other (h := Ne.symm hh), hc j hj]
  · obtain ⟨g, o, cs, e, hg1, hb⟩ := h.lies h0
    obtain ⟨cs', hb'⟩ := blk_any hb q (.int .u8 x)
    exact ⟨g, o, cs', e, hg1, hb'⟩

theorem list_eq {xs ys : List Int} {n : Nat} (h1 : xs.length = n) (h2 : ys.length = n) (h : ∀ j, j < n → xs.getD j 0 = ys.getD j 0) : xs = ys := by
  apply List.ext_getElem?
  intro j
  by_cases hj : j < n
  · have := h j hj
    rw [List.getD_eq_getElem?_getD, List.getD_eq_getElem?_getD, List.getElem?_eq_getElem (by omega), List.getElem?_eq_getElem (by omega)] at this
    rw [List.getElem?_eq_getElem (by omega), List.getElem?_eq_getElem (by omega)]
    simpa using this
  · rw [List.getElem?_eq_none (by omega), List.getElem?_eq_none (by omega)]

theorem Oct.some_cell {w : World} {base : Nat} {A : Option Addr} {cap : Nat} {xs : List Int} (h : Oct w base A cap xs) (k : Nat) (hk : k < cap) : ∃ q g o cs, pos A k = some q ∧ A = some ⟨g, o, none⟩ ∧ q = (⟨g, o, none⟩ : Addr).add k ∧ base ≤ g ∧ w.heap[g]? = some (.cells cs 5) ∧ w.cell? q = some (.int .u8 (xs.getD k 0)) := by
  obtain ⟨g, o, cs, e, hg, hb⟩ := h.lies (by omega)
  obtain ⟨ad, e', hc⟩ := h.reads.2.2 (by omega)
  rw [e] at e'
  obtain rfl := Option.some.inj e'
  exact ⟨_, g, o, cs, by rw [e]; rfl, e, rfl, hg, hb, hc k hk⟩

theorem Twins.poke {w : World} {base : Nat} {L : List Pair} (h : Twins w base L) (P : Pair) (hP : P ∈ L) (k : Nat) (hk : k < P.cap) (qa qb : Addr) (ha : pos P.A k = some qa) (hb : pos P.B k = some qb) (hqa : (w.cell? qa).isSome = true) (hqb : (w.cell? qb).isSome = true) (x : Int) :
    Twins ((w.setCell qa (.int .u8 x)).setCell qb (.int .u8 x)) base L := by
  refine ⟨h.fits, fun Q hQ => ?_, h.apart, h.alike⟩
  obtain ⟨xs, h1, h2⟩ := h.shows Q hQ
  have hqb' : ((w.setCell qa (.int .u8 x)).cell? qb).isSome = true := by
    by_cases e : qa = qb
    · subst e; rw [World.cell?_setCell_same' _ _ _ hqa]; rfl
    · rw [World.cell?_setCell_other (h := e)]; exact hqb
  obtain ⟨ys1, o1, g1⟩ := h1.set qa hqa x
  obtain ⟨ys2, o2, g2⟩ := o1.set qb hqb' x
  obtain ⟨zs1, p1, f1⟩ := h2.set qa hqa x
  obtain ⟨zs2, p2, f2⟩ := p1.set qb hqb' x
  have e : zs2 = ys2 := by
    refine list_eq p2.reads.1 o2.reads.1 fun j hj => ?_
    rw [f2 j hj, g2 j hj, f1 j hj, g1 j hj]
    have n1 : pos Q.B j ≠ some qa := by rw [← ha]; exact fun e => h.apart P hP Q hQ k j hk hj e.symm
    have n2 : pos Q.A j ≠ some qb := by rw [← hb]; exact fun e => h.apart Q hQ P hP j k hj hk e
    rw [if_neg n1, if_neg n2]
    have := h.alike Q hQ P hP j k hj hk
    rw [ha, hb] at this
    by_cases hh : pos Q.A j = some qa
    · rw [if_pos hh, if_pos (this.1 hh)]
    · rw [if_neg hh, if_neg (fun e => hh (this.2 e))]
  exact ⟨ys2, o2, e ▸ p2⟩

theorem ownsRow_far {w : World} {base e n : Nat} {v : Value} {xs : List Value} (h : w.ownsRow base e 1 v n xs) (q : Addr) (cs : Array Value) (t : TypeId) (hq : w.heap[q.block]? = some (.cells cs t)) (ht : t ≠ e) (u : Value) : (w.setCell q u).ownsRow base e 1 v n xs := by
  obtain ⟨hl, h | ⟨g, c, cur, hv, h1, h2, h3⟩⟩ := h
  · exact ⟨hl, .inl h⟩
  · refine ⟨hl, .inr ⟨g, c, cur, hv, h1, blk_far h2 (fun e => ?_) u, h3⟩⟩
    rw [← e, h2] at hq
    simp at hq
    exact ht hq.2.symm

theorem CellsAt.poke {w : World} {base p : Nat} {L : List Pair} {OA WA : Option Addr} {oc wc : Nat} (h : CellsAt w base p L OA WA oc wc) (P : Pair) (hP : P ∈ L) (k : Nat) (hk : k < P.cap) (qa qb : Addr) (ha : pos P.A k = some qa) (hb : pos P.B k = some qb) (x : Int) :
    CellsAt ((w.setCell qa (.int .u8 x)).setCell qb (.int .u8 x)) base p L OA WA oc wc ∧ Below base w ((w.setCell qa (.int .u8 x)).setCell qb (.int .u8 x)) := by
  obtain ⟨xs, h1, h2⟩ := h.twins.shows P hP
  obtain ⟨q1, g1, o1, cs1, e1, eA, q1e, b1, k1, c1⟩ := h1.some_cell k hk
  obtain ⟨q2, g2, o2, cs2, e2, eB, q2e, b2, k2, c2⟩ := h2.some_cell k hk
  obtain rfl : q1 = qa := Option.some.inj (e1.symm.trans ha)
  obtain rfl : q2 = qb := Option.some.inj (e2.symm.trans hb)
  have l1 : q1.block = g1 := by rw [q1e]; cases k <;> simp [Addr.add]
  have l2 : q2.block = g2 := by rw [q2e]; cases k <;> simp [Addr.add]
  rw [← l1] at k1 b1
  rw [← l2] at k2 b2
  obtain ⟨cs3, k3⟩ := blk_any k2 q1 (.int .u8 x)
  have p1 : p ≠ q1.block := fun e => by rw [← e, h.box] at k1; simp at k1
  have p2 : p ≠ q2.block := fun e => by rw [← e, h.box] at k2; simp at k2
  refine ⟨⟨blk_far (blk_far h.box p1 _) p2 _, ownsRow_far (ownsRow_far h.own q1 _ _ k1 (by decide) _) q2 _ _ k3 (by decide) _, ownsRow_far (ownsRow_far h.want q1 _ _ k1 (by decide) _) q2 _ _ k3 (by decide) _, h.twins.poke P hP k hk q1 q2 ha hb (by rw [c1]; rfl) (by rw [c2]; rfl) x, h.young, h.parted⟩, ((Below.refl base w).setCell b1 _).setCell b2 _⟩

/-! ### Mod and Poke -/
def md (a n : Int) : Int := Int.tmod (Int.tmod a n + n) n
theorem md_low (a n : Int) (hn : 0 < n) : 0 ≤ md a n := by
  unfold md
  have h1 : -n < Int.tmod a n := by
    have := Int.lt_tmod_of_pos a hn
    exact this
  exact Int.tmod_nonneg _ (by omega)
theorem md_high (a n : Int) (hn : 0 < n) : md a n < n := Int.tmod_lt_of_pos _ hn
theorem mod (a n : Int) (w : World) (hn : 0 < n) (hn2 : n ≤ 4611686018427387904) :
    Calls Try.prog 55 #[.int .i64 a, .int .i64 n] w fun e w' => e = .returned (.int .i64 (md a n)) ∧ ∃ m, w' = w.drewN m := by
  refine (PRoomMakes.cornref1_Mod.calls a n (md a n) w ?_).mono fun e w' ⟨he, hd⟩ => ⟨he, hd.out⟩
  unfold PRoomMakes.cornref1_Mod.f
  have h1 := Int.lt_tmod_of_pos a hn
  have h2 := Int.tmod_lt_of_pos a hn
  rw [if_neg (by omega), wrap_ok _ (by omega) (by omega)]
  rfl

theorem add_one' (ad : Addr) : ad.add 1 = ⟨ad.block, ad.off + 1, none⟩ := by cases ad; simp [Addr.add]
theorem add_two' (ad : Addr) : ad.add 2 = ⟨ad.block, ad.off + 2, none⟩ := by cases ad; simp [Addr.add]
theorem add_three' (ad : Addr) (j : Nat) : (⟨ad.block, ad.off + 3, none⟩ : Addr).add j = ad.add (j + 3) := by cases ad; cases j <;> simp [Addr.add]; omega
theorem reads_drop3 {w : World} {k : IntKind} {ad : Addr} {n c : Nat} {zs : List Int} (h : ReadsInt w k (some ad) n zs) (h3 : 3 ≤ n) (hc : n ≤ c) : ReadsInt w k (if c = 3 then some ad else some ⟨ad.block, ad.off + 3, none⟩) (n - 3) (zs.drop 3) := by
  refine ⟨by rw [List.length_drop, h.1], by have := h.2.1; omega, fun h0 => ?_⟩
  rw [if_neg (by omega)]
  refine ⟨_, rfl, fun j hj => ?_⟩
  obtain ⟨ad', e, hh⟩ := h.2.2 (by omega)
  obtain rfl := Option.some.inj e
  rw [add_three', hh (j + 3) (by omega), List.getD_eq_getElem?_getD, List.getD_eq_getElem?_getD, List.getElem?_drop, Nat.add_comm]
def lenS : Value → Nat
  | .slice _ m _ => m
  | _ => 0

set_option maxHeartbeats 2000000 in
set_option maxRecDepth 100000 in
theorem poke (p : Nat) (L : List Pair) (base : Nat) (OA WA : Option Addr) (oc wc : Nat) (w : World) (h : CellsAt w base p L OA WA oc wc) (hL : L.length ≤ 1000000) (hcap : ∀ P ∈ L, P.cap ≤ 4611686018427387904) (hfen : ∀ P ∈ L, P.n = P.cap → P.cap ≤ 100000000000)
    (SA : Option Addr) (m sc : Nat) (ys : List Int) (hs : ∀ w', Below base w w' → ReadsInt w' .i64 SA m ys) (hmc : m ≤ sc) (hbase : base ≤ w.heap.size) :
    Calls Try.prog 24 #[.pointer (some ⟨p, 0, none⟩), .slice SA m sc] w fun e w' => e = .returned (.bool true) ∧ Below base w w' := by
  have H := Aside0.mk h
  clear h
  have HC := Lib.hid hcap
  have HF := Lib.hid hfen
  have HS := Aside0.mk hs
  clear hcap hfen hs
  go_enter Try.func24, Try.ntmps24
  go_wp2
  go_loopw [1, 5, 6, 7, 8] (fun s _ _ _ _ (wr : World) => ∃ (SA : Option Addr) (m sc : Nat) (ys : List Int), s = .slice SA m sc ∧ m ≤ sc ∧ Aside0 (∀ w', Below base w w' → ReadsInt w' .i64 SA m ys) ∧ Aside0 (CellsAt wr base p L OA WA oc wc) ∧ Aside0 (Below base w wr)) (fun s _ _ _ _ _ => lenS s)
  case atStart => exact ⟨SA, m, sc, ys, rfl, hmc, HS, H, ⟨Below.refl _ _⟩⟩
  case round =>
    obtain ⟨SB, n, c, zs, rfl, hnc, HR, HT, HB⟩ := hrel
    clear HS
    have hf0 := HT.out.f0
    by_cases h3 : 3 ≤ n
    · by_cases h0 : 0 < L.length
      · have hd : decide ((n : Int) ≥ 3) = true := by simp; omega
        have hd0 : decide ((L.length : Int) > 0) = true := by simp; omega
        obtain ⟨ad, rfl, hc0⟩ := (HR.out wr HB.out).at_ 0 (by omega) (by omega)
        obtain ⟨ad', e1, hc1⟩ := (HR.out wr HB.out).at_ 1 (by omega) (by omega)
        obtain rfl := Option.some.inj e1
        obtain ⟨ad', e2, hc2⟩ := (HR.out wr HB.out).at_ 2 (by omega) (by omega)
        obtain rfl := Option.some.inj e2
        have hi0 := md_low (rd zs 0) (L.length : Int) (by omega)
        have hi1 := md_high (rd zs 0) (L.length : Int) (by omega)
        clear e1 e2
        have hc0 : wr.cell? ad = some (.int .i64 (rd zs 0)) := by
          have e : ad.add 0 = ad := by cases ad; simp [Addr.add]
          rw [← e]; exact hc0
        have hc1 : wr.cell? ⟨ad.block, ad.off + 1, none⟩ = some (.int .i64 (rd zs 1)) := by rw [← add_one']; exact hc1
        have hc2 : wr.cell? ⟨ad.block, ad.off + 2, none⟩ = some (.int .i64 (rd zs 2)) := by rw [← add_two']; exact hc2
        have hn0 : 0 < n := by omega
        have hn1 : 1 < n := by omega
        have hn2 : 2 < n := by omega
        go_wp2
        go_quiet ((exact Calls.quiet_of (mod (rd zs 0) L.length _ (by omega) (by omega))))
        obtain ⟨i, hi⟩ : ∃ i : Nat, md (rd zs 0) (L.length : Int) = i := ⟨(md (rd zs 0) (L.length : Int)).toNat, by omega⟩
        rw [hi]
        rw [hi] at hi0 hi1
        have HI := Lib.hid hi
        clear hi hi0
        have hlt : i < L.length := by omega
        obtain ⟨g, g', P, rfl, rfl, hP, h1, h2⟩ := HT.out.pair i hlt
        have hf1 := HT.out.f1
        go_wp2
        go_quiet ((fail))
        by_cases hz : P.cap = 0
        · have hdz : decide ((P.cap : Int) = 0) = true := by simp [hz]
          have hdz' : ((P.cap : Int) == 0) = true := by simp [hz]
          go_wp2
          refine ⟨⟨_, _, _, zs.drop 3, rfl, by omega, ⟨fun w' hw' => reads_drop3 (HR.out w' ?_) h3 hnc⟩, ⟨HT.out.below ?_⟩, ⟨?_⟩⟩, ?_⟩
          · exact hw'
          · exact pw_below_drewN (Below.refl _ _) _
          · exact pw_below_drewN HB.out _
          · show n - 3 < n; omega
        · have hdz : decide ((P.cap : Int) = 0) = false := by simp [hz]
          have hdz' : ((P.cap : Int) == 0) = false := by simp [hz]
          have hk0 := md_low (rd zs 1) (P.cap : Int) (by omega)
          have hk1 := md_high (rd zs 1) (P.cap : Int) (by omega)
          have hcp := HC.out P hP
          have hfit := HT.out.twins.fits P hP
          go_wp2_with fail
          refine (mod (rd zs 1) P.cap _ (by omega) (by omega)).mono ?_
          rintro e W ⟨rfl, hW⟩
          obtain ⟨k, hk⟩ : ∃ k : Nat, md (rd zs 1) (P.cap : Int) = k := ⟨(md (rd zs 1) (P.cap : Int)).toNat, by omega⟩
          rw [hk]
          rw [hk] at hk0 hk1
          have hkl : k < P.cap := by omega
          clear hk hk0
          have hBW : Below wr.heap.size wr W := by obtain ⟨m1, rfl⟩ := hW; exact pw_below_drewN (pw_below_drewN (Below.refl _ _) _) _
          clear hW
          have HTW := Aside0.mk (HT.out.below hBW)
          have HBW := Aside0.mk (below_then HB.out (Nat.le_trans hbase HB.out.size) hBW)
          have hc0 : W.cell? ad = some (.int .i64 (rd zs 0)) := by
            obtain ⟨ad', e, h⟩ := (HR.out W HBW.out).at_ 0 (by omega) (by omega)
            obtain rfl := Option.some.inj e
            have e : ad.add 0 = ad := by cases ad; simp [Addr.add]
            rw [← e]; exact h
          have hc2 : W.cell? ⟨ad.block, ad.off + 2, none⟩ = some (.int .i64 (rd zs 2)) := by
            obtain ⟨ad', e, h⟩ := (HR.out W HBW.out).at_ 2 (by omega) (by omega)
            obtain rfl := Option.some.inj e
            rw [← add_two']; exact h
          obtain ⟨xs, hx1, hx2⟩ := HTW.out.twins.shows P hP
          obtain ⟨q1, g1, o1, cs1, e1, eA, q1e, b1, k1, ca⟩ := hx1.some_cell k hkl
          obtain ⟨q2, g2, o2, cs2, e2, eB, q2e, b2, k2, cb⟩ := hx2.some_cell k hkl
          have hne : q1 ≠ q2 := fun e => HTW.out.twins.apart P hP P hP k k hkl hkl (by rw [e1, e2, e])
          have HP := CellsAt.poke HTW.out P hP k hkl q1 q2 e1 e2 (rd zs 2 % 256)
          obtain ⟨A, B, pn, pc⟩ := P
          simp only at eA eB hkl hk1 hcp hfit hz hdz hdz' h1 h2
          subst eA eB
          have q1f : q1 = ⟨g1, o1 + k, none⟩ := by rw [q1e]; cases k <;> simp [Addr.add]
          have q2f : q2 = ⟨g2, o2 + k, none⟩ := by rw [q2e]; cases k <;> simp [Addr.add]
          subst q1f q2f
          have fa : W.frozen? ⟨g1, o1 + k, none⟩ = false := blk_frozen k1 _
          have fb : W.frozen? ⟨g2, o2 + k, none⟩ = false := blk_frozen k2 _
          have cb' : (W.setCell ⟨g1, o1 + k, none⟩ (.int .u8 (rd zs 2 % 256))).cell? ⟨g2, o2 + k, none⟩ = some (.int .u8 (xs.getD k 0)) := by rw [World.cell?_setCell_other (h := hne)]; exact cb
          have HP := Aside0.mk HP
          clear q1e q2e e1 e2 hx1 hx2 hP k1 k2 b1 b2 h1 h2 hf0 hf1 hc1 hBW hne
          go_wp2
          go_region
          clear fa fb cb' ca cb hc0 hc2
          generalize (W.setCell ⟨g1, o1 + k, none⟩ (.int .u8 (rd zs 2 % 256))).setCell ⟨g2, o2 + k, none⟩ (.int .u8 (rd zs 2 % 256)) = W2 at HP ⊢
          have HB2 := Aside0.mk (HBW.out.trans HP.out.2)
          go_wp2_with fail
          refine (same p L base _ _ oc wc _ (HP.out.1.below (below_drew (Below.refl _ _))) hL HC.out).mono ?_
          rintro e W3 ⟨rfl, hw3⟩
          have hb3 : Below W2.heap.size W2 W3 := by obtain ⟨m, rfl⟩ := hw3; exact pw_below_drewN (below_drew (Below.refl _ _)) m
          have hsz : base ≤ W2.heap.size := Nat.le_trans hbase HB2.out.size
          have HB3 := Aside0.mk (below_then HB2.out hsz hb3)
          have HT3 := Aside0.mk (HP.out.1.below hb3)
          clear hw3 hb3
          go_wp2_with fail
          refine ⟨⟨_, _, _, zs.drop 3, rfl, by omega, ⟨fun w' hw' => reads_drop3 (HR.out w' hw') h3 hnc⟩, HT3, HB3⟩, ?_⟩
          show n - 3 < n
          omega
      · go_wp2_with fail
        refine (appends p L base OA WA oc wc wr HT.out hL HC.out HF.out).mono ?_
        rintro e w2 ⟨rfl, hb2⟩
        have HB2 := Aside0.mk (below_then HB.out (Nat.le_trans hbase HB.out.size) hb2)
        clear hb2
        go_wp2_with fail
        go_ret
        exact ⟨rfl, HB2.out⟩
    · go_wp2_with fail
      refine (appends p L base OA WA oc wc wr HT.out hL HC.out HF.out).mono ?_
      rintro e w2 ⟨rfl, hb2⟩
      have HB2 := Aside0.mk (below_then HB.out (Nat.le_trans hbase HB.out.size) hb2)
      clear hb2
      go_wp2_with fail
      go_ret
      exact ⟨rfl, HB2.out⟩
end Go.Proofs.Ytancgipidbojkaa.Twin
