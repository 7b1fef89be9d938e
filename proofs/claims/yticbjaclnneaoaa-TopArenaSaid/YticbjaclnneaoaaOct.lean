/- Rows of octets: what lies in a block of one's own, what is made, copied, cloned. -/
import Derived.Test.YticbjaclnneaoaaBook
import Derived.ArgAppend
import Derived.BigRegion
import Derived.Laws.CopyOwn
namespace Go.Proofs.Yticbjaclnneaoaa.Oct
open Go.RowKit Go.Proofs.YticbjaclnneaoaaW.PrintWords Go.Proofs.YticbjaclnneaoaaW.PrintLast Go.Proofs.YticbjaclnneaoaaW.PrintMore Go.Proofs.Yticbjaclnneaoaa.Book
set_option linter.unusedSimpArgs false

theorem infoU8 : (Try.prog.info? 5).map (fun i => (i.zero, i.size, i.bytes)) = some (some (.int .u8 0), 1, 1) := by kernel_rfl
theorem infoU1 : (Try.prog.info? 5).map (·.size) = some 1 := by kernel_rfl
theorem add_zero' (g j : Nat) : (⟨g, 0, none⟩ : Addr).add j = ⟨g, j, none⟩ := by
  cases j <;> simp [Addr.add]
theorem add_at (g o j : Nat) : (⟨g, o, none⟩ : Addr).add j = ⟨g, o + j, none⟩ := by
  cases j <;> simp [Addr.add]

def lits8 (xs : List Int) : List Value := xs.map (.int .u8)
theorem lits8_get (xs : List Int) (j : Nat) (h : j < xs.length) : (lits8 xs)[j]? = some (.int .u8 (xs.getD j 0)) := by
  unfold lits8
  rw [List.getElem?_map, List.getD_eq_getElem?_getD, List.getElem?_eq_getElem h]; rfl
theorem lits8_length (ys : List Int) : (lits8 ys).length = ys.length := by simp [lits8]
theorem lits8_append (xs ys : List Int) : lits8 (xs ++ ys) = lits8 xs ++ lits8 ys := by simp [lits8]
theorem lits8_one (xs : List Int) : ∀ v ∈ lits8 xs, v.oneCell' = true := by
  intro v hv
  simp only [lits8, List.mem_map] at hv
  obtain ⟨x, _, rfl⟩ := hv
  rfl
theorem mades (r : Nat) : madeCells (Value.int .u8 0).cells r = (lits8 (List.replicate r 0)).toArray := by
  apply Array.ext
  · rw [size_madeCells]; simp [lits8]
  · intro i h1 h2
    simp [lits8, madeCells, Value.cells, Nat.mod_one]

/-- Block g is these octets, and nothing else. -/
def Row (w : World) (g : Nat) (ys : List Int) : Prop := w.heap[g]? = some (.cells (lits8 ys).toArray 5)
theorem Row.lt {w : World} {g : Nat} {ys : List Int} (h : Row w g ys) : g < w.heap.size := blk_lt h
theorem Row.cell {w : World} {g : Nat} {ys : List Int} (h : Row w g ys) (k : Nat) (hk : k < ys.length) : w.cell? ⟨g, k, none⟩ = some (.int .u8 (ys.getD k 0)) := by
  rw [blk_cell h k, List.getElem?_toArray, lits8_get ys k hk]
theorem Row.frozen {w : World} {g : Nat} {ys : List Int} (h : Row w g ys) (k : Nat) : w.frozen? ⟨g, k, none⟩ = false := blk_frozen h k
theorem Row.put {w : World} {g : Nat} {ys : List Int} (h : Row w g ys) (k : Nat) (x : Int) : Row (w.setCell ⟨g, k, none⟩ (.int .u8 x)) g (ys.set k x) := by
  have e := blk_set h k (.int .u8 x)
  unfold Row
  rw [e]
  simp [lits8, List.map_set]
theorem Row.far {w : World} {g : Nat} {ys : List Int} (h : Row w g ys) (q : Addr) (hq : g ≠ q.block) (v : Value) : Row (w.setCell q v) g ys := blk_far h hq v
theorem Row.spliced {w : World} {g : Nat} {zs : List Int} (h : Row w g zs) (ys : List Int) (cs : Array Value) (hcs : cs = (lits8 ys).toArray) : Row (w.setRow g cs) g ys := by
  subst hcs
  exact setRow_heap _ _ _ _ _ _ h
theorem Row.other {w : World} {g g' : Nat} {ys : List Int} (h : Row w g ys) (hne : g ≠ g') (cs : Array Value) : Row (w.setRow g' cs) g ys := (setRow_other w g' g cs hne).trans h
theorem Row.below {w w' : World} {g : Nat} {ys : List Int} (h : Row w g ys) (hb : Below w.heap.size w w') : Row w' g ys := (hb.block g h.lt).trans h
theorem Row.drewN {w : World} {g : Nat} {ys : List Int} (h : Row w g ys) (n : Nat) : Row (w.drewN n) g ys := h
theorem Row.drew {w : World} {g : Nat} {ys : List Int} (h : Row w g ys) : Row w.drew g ys := h
theorem Row.upd {w w' : World} {S : Nat → Prop} {g : Nat} {ys : List Int} (h : Row w g ys) (hb : Upd S w w') (hn : ¬ S g) : Row w' g ys := (hb.block g h.lt hn).trans h
/-- A stretch of a row reads. -/
theorem Row.reads_at {w : World} {g : Nat} {ys : List Int} (h : Row w g ys) (o n : Nat) (hn : o + n ≤ ys.length) (hm : ys.length ≤ maxLen) : ReadsInt w .u8 (some ⟨g, o, none⟩) n ((ys.drop o).take n) := by
  refine ⟨by simp; omega, by unfold maxLen at hm; omega, fun _ => ⟨_, rfl, fun j hj => ?_⟩⟩
  rw [add_at, h.cell (o + j) (by omega)]
  simp [List.getD_eq_getElem?_getD, List.getElem?_take, hj]
theorem Row.reads {w : World} {g : Nat} {xs zs : List Int} (h : Row w g (xs ++ zs)) (hm : xs.length ≤ maxLen) : ReadsInt w .u8 (some ⟨g, 0, none⟩) xs.length xs :=
  ⟨rfl, hm, fun _ => ⟨_, rfl, fun j hj => by
    rw [add_zero', h.cell j (by simp; omega)]
    simp [List.getD_eq_getElem?_getD, List.getElem?_append_left hj]⟩⟩
theorem reads_cells {w : World} {A : Option Addr} {m : Nat} {xs : List Int} (h : ReadsInt w .u8 A m xs) (h0 : 0 < (lits8 xs).length) : ∃ ad, A = some ad ∧ ∀ j v, (lits8 xs)[j]? = some v → w.cell? (ad.add j) = some v := by
  rw [lits8_length] at h0
  have hl := h.1
  obtain ⟨ad, e, hc⟩ := h.2.2 (by omega)
  refine ⟨ad, e, fun j v hj => ?_⟩
  have hlt : j < xs.length := by
    by_cases hc : j < xs.length
    · exact hc
    · rw [List.getElem?_eq_none (by rw [lits8_length]; omega)] at hj; cases hj
  rw [hc j (by omega), ← hj, lits8_get xs j hlt]
theorem reads_nothing (w : World) (k : IntKind) (A : Option Addr) : ReadsInt w k A 0 [] := ⟨rfl, Nat.zero_le _, fun h => absurd h (Nat.lt_irrefl 0)⟩

theorem makeU8 (n r : Nat) (hnr : n ≤ r) (hr : r ≤ 281474976710656) (u : World) : (Instr.makeSlice 46 (.int .i64 n) (.int .i64 r)).run Try.prog u = .ok (.slice (some ⟨u.heap.size, 0, none⟩) n r) (u.alloc (.cells (lits8 (List.replicate r 0)).toArray 5)) := by
  obtain ⟨i0, hi, hz0, hz1, hz2⟩ := info_parts infoU8
  have h := run_make (P := Try.prog) u 46 5 i0 (.int .u8 0) Try.underlying46 hi hz0 .i64 .i64 (n : Int) (r : Int) (by omega) (by omega) (by rw [hz2]; omega) (by omega)
  rw [h, Int.toNat_natCast, Int.toNat_natCast, hz1, Nat.mul_one, mades]
theorem splice_eq (ys xs : List Int) (o : Nat) : splice (lits8 ys) o (lits8 xs) = lits8 (ys.take o ++ xs ++ ys.drop (o + xs.length)) := by
  simp [splice, lits8, List.map_take, List.map_drop]

theorem reads_lt {w : World} {k : IntKind} {A : Option Addr} {n : Nat} {xs : List Int} (h : ReadsInt w k A n xs) (h0 : 0 < n) : ∃ ad, A = some ad ∧ ad.block < w.heap.size := by
  obtain ⟨ad, e, hc⟩ := h.2.2 h0
  refine ⟨ad, e, ?_⟩
  have := World.block_lt_of_cell? w _ (hc 0 h0)
  simpa [Addr.add] using this
/-- A list that reads goes on reading where its block is as it was. -/
theorem reads_upd {w w' : World} {S : Nat → Prop} {k : IntKind} {A : Option Addr} {n : Nat} {xs : List Int} (h : ReadsInt w k A n xs) (hb : Upd S w w') (hn : ∀ ad, A = some ad → 0 < n → ¬ S ad.block) : ReadsInt w' k A n xs := by
  refine ⟨h.1, h.2.1, fun h0 => ?_⟩
  obtain ⟨ad, e, hc⟩ := h.2.2 h0
  refine ⟨ad, e, fun j hj => ?_⟩
  rw [← hc j hj]
  obtain ⟨ad', e', hlt⟩ := reads_lt h h0
  obtain rfl : ad = ad' := Option.some.inj (e.symm.trans e')
  have hbl : (ad.add j).block = ad.block := by cases j <;> simp [Addr.add]
  have := hb.block ad.block hlt (hn ad e h0)
  simp only [World.cell?, hbl, this]

theorem sub_from (A : Option Addr) (n c k : Nat) (j : Int) (hj : j = k) (hk : k ≤ n) : ∃ A' : Option Addr, (∀ W : World, (Instr.slice 46 (.slice A n c) (some (.int .i64 j)) none none).run Try.prog W = .ok (.slice A' (n - k) (c - k)) W) ∧ (k < c → A' = A.map (·.add k)) := by
  obtain ⟨i0, hi, hz0, hz1, hz2⟩ := info_parts infoU8
  subst hj
  refine ⟨if c = k then A else A.map (·.add k), fun W => ?_, fun h => if_neg (by omega)⟩
  have := cut_from (P := Try.prog) 46 5 .i64 Try.underlying46 hi 1 hz1 A n c k (by omega) (by omega) W
  simpa using this
theorem sub_to (A : Option Addr) (n c k : Nat) (j : Int) (hj : j = k) (hk : k ≤ n) (hc : n ≤ c) : ∀ W : World, (Instr.slice 46 (.slice A n c) none (some (.int .i64 j)) none).run Try.prog W = .ok (.slice A k c) W := by
  obtain ⟨i0, hi, hz0, hz1, hz2⟩ := info_parts infoU8
  subst hj
  intro W
  have := cut_to (P := Try.prog) 46 5 .i64 Try.underlying46 hi A n c k (by omega) (by omega) hc W
  simpa using this
/-- What was made first, and then changed where it is new. -/
theorem Upd_below_of {S : Nat → Prop} {B : Nat} {w w1 w2 : World} (h : Upd S w1 w2) (hb : Below B w w1) (hB : B ≤ w1.heap.size) (hs : ∀ k, S k → B ≤ k) : Below B w w2 := hb.trans (h.below hB hs)
theorem upd_setRow {S : Nat → Prop} {w0 w : World} (h : Upd S w0 w) (g : Nat) (cs : Array Value) (hg : S g ∨ w0.heap.size ≤ g) : Upd S w0 (w.setRow g cs) := by
  have hb := below_setRow (Below.refl 0 w) (Nat.zero_le g) cs
  refine ⟨hb.os.trans h.os, hb.tape.trans h.tape, hb.output.trans h.output, Nat.le_trans h.size hb.size, fun k hk hn => ?_⟩
  rw [setRow_other w g k cs (fun e => by rcases hg with h1 | h1
                                         · exact hn (e ▸ h1)
                                         · omega)]
  exact h.block k hk hn

theorem wpList_copy8 {w : World} {ops : Array Oper} {rest : List Oper} {o : Oper} {a : Act} {Q : Exit → Act → World → Prop} (hgd : o.guard = none) (d s : Operand)
    (ho : o.op = .call { callee := .builtin .copy, args := #[d, s], argTypes := #[46, 46] })
    (dp sp : Option Addr) (dLen dCap sLen sCap : Nat) (hd : a.eval d = .slice dp dLen dCap) (hs : a.eval s = .slice sp sLen sCap)
    (g off : Nat) (ys xs : List Int) (hg : Row w g ys) (hn : xs.length = Nat.min sLen dLen) (hpos : 0 < xs.length → dp = some ⟨g, off, none⟩ ∧ ReadsInt w .u8 sp xs.length xs) (hfit : off + xs.length ≤ ys.length)
    (h : ∀ w', Aside0 (Row w' g (ys.take off ++ xs ++ ys.drop (off + xs.length))) → Aside0 (Upd (fun k => k = g) w w') → w'.heap.size = w.heap.size → wpList Try.prog ops Q rest (a.put o.dst (.int .i64 xs.length)) w') :
    wpList Try.prog ops Q (o :: rest) a w := by
  by_cases h0 : xs.length = 0
  · obtain rfl : xs = [] := List.eq_nil_of_length_eq_zero h0
    refine wpList_copy_nothing hgd d s _ _ ho 5 Try.underlying46 infoU1 dp sp dLen dCap sLen sCap hd hs (by simpa using hn.symm) ?_
    exact h w ⟨by simpa using hg⟩ ⟨Upd.refl _ _⟩ rfl
  · obtain ⟨rfl, hr⟩ := hpos (by omega)
    obtain ⟨ad, rfl, hsrc⟩ := reads_cells hr (by rw [lits8_length]; omega)
    have hp := wpList_copy_own (P := Try.prog) (w := w) (ops := ops) (rest := rest) (Q := Q) hgd d s _ _ ho 5 Try.underlying46 infoU1 g off dLen dCap ad sLen sCap hd hs (lits8 ys).toArray 5 hg (lits8 xs) (by rw [lits8_length]; exact hn) hsrc (by simp [lits8_length]; omega) (lits8_one xs)
    refine hp ?_
    rw [lits8_length]
    refine h _ ⟨hg.spliced _ _ ?_⟩ ⟨upd_setRow (Upd.refl _ _) _ _ (.inl rfl)⟩ (by simp [World.setRow])
    simp [lits8, List.map_take, List.map_drop]

theorem step_copy8 {ops : Array Oper} {o : Oper} {a : Act} {w : World} {K : Act → World → Prop} {Q : Exit → Act → World → Prop} {E : Prop} (hgd : o.guard = none) (d s : Operand)
    (ho : o.op = .call { callee := .builtin .copy, args := #[d, s], argTypes := #[46, 46] })
    (dp sp : Option Addr) (dLen dCap sLen sCap : Nat) (hd : a.eval d = .slice dp dLen dCap) (hs : a.eval s = .slice sp sLen sCap)
    (g off : Nat) (ys xs : List Int) (hg : Row w g ys) (hn : xs.length = Nat.min sLen dLen) (hpos : 0 < xs.length → dp = some ⟨g, off, none⟩ ∧ ReadsInt w .u8 sp xs.length xs) (hfit : off + xs.length ≤ ys.length)
    (h : ∀ w', Aside0 (Row w' g (ys.take off ++ xs ++ ys.drop (off + xs.length))) → Aside0 (Upd (fun k => k = g) w w') → w'.heap.size = w.heap.size → K (a.put o.dst (.int .i64 xs.length)) w') :
    if Region.wanted o (yielded ops a.tmps) = true then Oper.wp Try.prog o a w K Q else E := by
  have hw : Region.wanted o (yielded ops a.tmps) = true := by simp [Region.wanted, hgd]
  rw [if_pos hw]
  by_cases h0 : xs.length = 0
  · obtain rfl : xs = [] := List.eq_nil_of_length_eq_zero h0
    have hrun := run_copy_none (P := Try.prog) w 46 46 o.type 5 dp sp dLen dCap sLen sCap Try.underlying46 infoU1 (by simpa using hn.symm)
    unfold Oper.wp
    simp [execOp, ho, resolve, invoke, builtin, hd, hs, hrun, Result.andThen]
    exact h w ⟨by simpa using hg⟩ ⟨Upd.refl _ _⟩ rfl
  · obtain ⟨rfl, hr⟩ := hpos (by omega)
    obtain ⟨ad, rfl, hsrc⟩ := reads_cells hr (by rw [lits8_length]; omega)
    have hrun := run_copy_row (P := Try.prog) w 46 46 o.type 5 g off dLen dCap ad sLen sCap (lits8 ys).toArray 5 (lits8 xs) Try.underlying46 infoU1 hg (by rw [lits8_length]; exact hn) hsrc (by simp [lits8_length]; omega) (lits8_one xs)
    unfold Oper.wp
    simp [execOp, ho, resolve, invoke, builtin, hd, hs, hrun, Result.andThen]
    rw [lits8_length]
    refine h _ ⟨hg.spliced _ _ ?_⟩ ⟨upd_setRow (Upd.refl _ _) _ _ (.inl rfl)⟩ (by simp [World.setRow])
    simp [lits8, List.map_take, List.map_drop]
end Go.Proofs.Yticbjaclnneaoaa.Oct
