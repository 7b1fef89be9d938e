/- Slices of octets that are grown at their end and cut at their beginning. -/
import Derived.Test.YtmellidlnggldaaPull
import Derived.Deep.AppendSrc
import Derived.Laws.BytesArg
namespace Go.Proofs.Ytmellidlnggldaa.Ring
set_option linter.unusedVariables false
open Go.RowKit Go.Proofs.YtmellidlnggldaaW.PrintWords Go.Proofs.YtmellidlnggldaaW.PrintLast Go.Proofs.YtmellidlnggldaaW.PrintMore Go.Proofs.Ytmellidlnggldaa.Book Go.Proofs.Ytmellidlnggldaa.Oct Go.Proofs.Ytmellidlnggldaa.Pure
set_option linter.unusedSimpArgs false

/-- A slice of octets in a block of its own, from some cell on. -/
structure BufAt (w : World) (B : Nat) (g off n cap : Nat) (zs xs : List Int) : Prop where
  young : B ≤ g
  row : Row w g zs
  len : xs.length = n
  le : n ≤ cap
  fit : off + cap ≤ zs.length
  small : zs.length ≤ maxLen
  shows : (zs.drop off).take n = xs
def Buf (w : World) (B : Nat) (v : Value) (xs : List Int) : Prop := (v = .slice none 0 0 ∧ xs = []) ∨ ∃ g off n cap zs, v = .slice (some ⟨g, off, none⟩) n cap ∧ BufAt w B g off n cap zs xs

section
variable {w w' : World} {B : Nat} {v : Value} {xs : List Int}
theorem Buf.nil (w : World) (B : Nat) : Buf w B (.slice none 0 0) [] := .inl ⟨rfl, rfl⟩
theorem Buf.lt (h : Buf w B v xs) {j : Nat} (hj : some j = v.ownBlock) : B ≤ j ∧ j < w.heap.size := by
  rcases h with ⟨rfl, _⟩ | ⟨g, off, n, cap, zs, rfl, h⟩
  · cases hj
  · have : j = g := by simpa [Value.ownBlock] using hj
    subst this
    exact ⟨h.young, h.row.lt⟩
theorem Buf.frame (h : Buf w B v xs) (hh : ∀ j, some j = v.ownBlock → w'.heap[j]? = w.heap[j]?) : Buf w' B v xs := by
  rcases h with h | ⟨g, off, n, cap, zs, rfl, h⟩
  · exact .inl h
  · exact .inr ⟨g, off, n, cap, zs, rfl, h.young, (hh g rfl).trans h.row, h.len, h.le, h.fit, h.small, h.shows⟩
theorem Buf.upd {S : Nat → Prop} (h : Buf w B v xs) (hu : Upd S w w') (hS : ∀ j, some j = v.ownBlock → ¬ S j) : Buf w' B v xs := h.frame (fun j hj => hu.block j (h.lt hj).2 (hS j hj))
theorem Buf.below (h : Buf w B v xs) (hb : Below w.heap.size w w') : Buf w' B v xs := h.frame (fun j hj => hb.block j (h.lt hj).2)
/-- Its block holds octets. -/
theorem Buf.octets (h : Buf w B v xs) {j : Nat} (hj : some j = v.ownBlock) : ∃ zs, Row w j zs := by
  rcases h with ⟨rfl, _⟩ | ⟨g, off, n, cap, zs, rfl, h⟩
  · cases hj
  · have : j = g := by simpa [Value.ownBlock] using hj
    subst this
    exact ⟨zs, h.row⟩
/-- What is read from it. -/
theorem Buf.shape (h : Buf w B v xs) : ∃ A cap, v = .slice A xs.length cap ∧ xs.length ≤ cap ∧ ReadsInt w .u8 A xs.length xs := by
  rcases h with ⟨rfl, rfl⟩ | ⟨g, off, n, cap, zs, rfl, h⟩
  · exact ⟨none, 0, rfl, Nat.le_refl _, reads_nothing _ _ _⟩
  · have hf := h.fit
    have hle := h.le
    have hsm := h.small
    refine ⟨_, cap, by rw [h.len], by rw [h.len]; exact hle, ?_⟩
    have := h.row.reads_at off n (by omega) hsm
    rw [h.shows] at this
    rw [h.len]
    exact this
/-- Cut at its beginning. -/
theorem Buf.from (h : Buf w B v xs) (k : Nat) (hk : k ≤ xs.length) : ∃ v', (∀ W : World, (Instr.slice 37 v (some (.int .i64 k)) none none).run Try.prog W = .ok v' W) ∧ Buf w B v' (xs.drop k) ∧ v'.ownBlock = v.ownBlock := by
  rcases h with ⟨rfl, rfl⟩ | ⟨g, off, n, cap, zs, rfl, h⟩
  · have : k = 0 := by simpa using hk
    subst this
    obtain ⟨A', h1, h2⟩ := sub_from none 0 0 0 0 rfl (Nat.le_refl _)
    have h3 : A' = none := by
      obtain ⟨i0, hi, hz0, hz1, hz2⟩ := info_parts infoU8
      have h4 := h1 w
      have hc := cut_from (P := Try.prog) 37 5 .i64 Try.underlying37 hi 1 hz1 none 0 0 0 (by omega) (by omega) w
      have h5 := h4.symm.trans (by simpa using hc)
      simpa using h5
    subst h3
    exact ⟨_, h1, .inl ⟨rfl, by simp⟩, rfl⟩
  · have hle := h.le
    have hf := h.fit
    have hln := h.len
    obtain ⟨i0, hi, hz0, hz1, hz2⟩ := info_parts infoU8
    have hrun : ∀ W : World, (Instr.slice 37 (.slice (some ⟨g, off, none⟩) n cap) (some (.int .i64 k)) none none).run Try.prog W = .ok (.slice (if cap = k then some ⟨g, off, none⟩ else some ⟨g, off + k, none⟩) (n - k) (cap - k)) W := fun W => by
      have hc := cut_from (P := Try.prog) 37 5 .i64 Try.underlying37 hi 1 hz1 (some ⟨g, off, none⟩) n cap k (by omega) (by omega) W
      simpa [Oct.add_at] using hc
    by_cases hck : cap = k
    · rw [if_pos hck] at hrun
      refine ⟨_, hrun, .inr ⟨g, off, n - k, cap - k, zs, rfl, h.young, h.row, by rw [List.length_drop]; omega, by omega, by omega, h.small, ?_⟩, rfl⟩
      have : n - k = 0 := by omega
      rw [this, List.take_zero, List.drop_eq_nil_of_le (by omega)]
    · rw [if_neg hck] at hrun
      refine ⟨_, hrun, .inr ⟨g, off + k, n - k, cap - k, zs, rfl, h.young, h.row, by rw [List.length_drop]; omega, by omega, by omega, h.small, ?_⟩, rfl⟩
      rw [← h.shows, List.drop_take, List.drop_drop]
end

theorem row_cells : ∀ (os : List Int) (o : Nat) {w : World} {g : Nat} {zs : List Int}, Row w g zs → o + os.length ≤ zs.length → Row (w.setCells g o (lits8 os)) g (zs.take o ++ os ++ zs.drop (o + os.length)) ∧ (w.setCells g o (lits8 os)).heap.size = w.heap.size ∧ Upd (fun j => j = g) w (w.setCells g o (lits8 os))
  | [], o, w, g, zs, h, hl => by
    refine ⟨?_, rfl, Upd.refl _ _⟩
    have : zs.take o ++ [] ++ zs.drop (o + 0) = zs := by simp
    show Row w g _
    rw [show o + ([] : List Int).length = o + 0 from rfl, this]
    exact h
  | x :: os, o, w, g, zs, h, hl => by
    have hl' : o + (os.length + 1) ≤ zs.length := hl
    obtain ⟨h1, h2, h3⟩ := row_cells os (o + 1) (h.put o x) (by rw [List.length_set]; omega)
    have e : w.setCells g o (lits8 (x :: os)) = (w.setCell ⟨g, o, none⟩ (.int .u8 x)).setCells g (o + 1) (lits8 os) := rfl
    rw [e]
    refine ⟨?_, by rw [h2]; simp [World.setCell], ((Upd.refl (fun j => j = g) w).setCell ⟨g, o, none⟩ (.inl rfl) _).then h3 (fun j hj => .inl hj)⟩
    have e2 : (zs.set o x).take (o + 1) ++ os ++ (zs.set o x).drop (o + 1 + os.length) = zs.take o ++ (x :: os) ++ zs.drop (o + (x :: os).length) := by
      have l1 : (zs.set o x).take (o + 1) = zs.take o ++ [x] := by
        rw [List.take_add_one, List.take_set_of_le (Nat.le_refl _), List.getElem?_set_self (by omega)]
        rfl
      have l2 : (zs.set o x).drop (o + 1 + os.length) = zs.drop (o + (x :: os).length) := by
        rw [List.drop_set_of_lt (by omega)]
        congr 1
        simp only [List.length_cons]; omega
      rw [l1, l2]
      simp
    rw [← e2]
    exact h1

theorem zeros8 (n : Nat) : (Builtin.zeroCells (Value.int .u8 0).cells n).toList = List.replicate n (.int .u8 0) := by
  apply List.ext_getElem?
  intro j
  by_cases hj : j < n
  · simp [Builtin.zeroCells, Value.cells, hj, Nat.mod_one]
  · simp [Builtin.zeroCells, Value.cells, hj]

/-- append of octets. -/
theorem run_append_buf {w : World} {B : Nat} {v : Value} {xs : List Int} (h : Buf w B v xs) (hB : B ≤ w.heap.size) (ty : TypeId) (ad : Addr) (c : Nat) (os : List Int) (hr : ∀ j u, (lits8 os)[j]? = some u → w.cell? (ad.add j) = some u) (hl : xs.length + os.length ≤ 1000000) :
    ∃ v' w', (Builtin.append_ #[37, 37] ty #[v, .slice (some ad) os.length c]).run Try.prog w = .ok v' w' ∧ Buf w' B v' (xs ++ os) ∧ Upd (fun j => some j = v.ownBlock) w w' ∧ (∀ j, some j = v'.ownBlock → some j = v.ownBlock ∨ w.heap.size ≤ j) := by
  obtain ⟨i0, hi, hz0, hz1, hz2⟩ := info_parts infoU8
  have hsrc : Src Try.prog i0.size 37 (.slice (some ad) os.length c) os.length (lits8 os) w := Src.ofSlice w Try.underlying37 ad os.length c (lits8 os) (by rw [lits8_length, hz1, Nat.mul_one]) hr (lits8_one os)
  have grow : ∀ (base : Option Addr) (cap : Nat), v = .slice base xs.length cap → cap < xs.length + os.length → (Builtin.firstCells i0.size xs.length (.slice base xs.length cap)).run Try.prog w.drew = .ok (lits8 xs).toArray w.drew →
      ∃ v' w', (Builtin.append_ #[37, 37] ty #[v, .slice (some ad) os.length c]).run Try.prog w = .ok v' w' ∧ Buf w' B v' (xs ++ os) ∧ Upd (fun j => some j = v.ownBlock) w w' ∧ (∀ j, some j = v'.ownBlock → some j = v.ownBlock ∨ w.heap.size ≤ j) := fun base cap hv hlt hold => by
    subst hv
    have hrun := run_append_grow_src (P := Try.prog) w 37 37 ty 5 i0 (.int .u8 0) Try.underlying37 hi hz0 base xs.length cap (lits8 xs) hold _ os.length (lits8 os) hsrc hlt (by omega) (by rw [hz2]; exact growslice_fits hlt (by omega))
    have hge := grownCap_ge w (xs.length + os.length) cap 5
    have hle := grownCap_le_maxLen w (xs.length + os.length) cap 5 (by unfold maxLen; omega)
    refine ⟨_, _, hrun, .inr ⟨w.heap.size, 0, xs.length + os.length, grownCap w (xs.length + os.length) cap 5, (xs ++ os) ++ List.replicate (grownCap w (xs.length + os.length) cap 5 - (xs.length + os.length)) 0, rfl, hB, ?_, by simp, hge, by simp; omega, by simp; omega, by rw [List.drop_zero, ← List.length_append, List.take_left]⟩, Upd.of_below (below_alloc (below_drew (Below.refl _ _)) _), fun j hj => .inr ?_⟩
    · have hb : ((w.drew).alloc (.cells ((lits8 xs ++ lits8 os).toArray ++ Builtin.zeroCells (Value.int .u8 0).cells (grownCap w (xs.length + os.length) cap 5 - (xs.length + os.length))) 5)).heap[w.heap.size]? = _ := blk_new w.drew _
      have he : (lits8 xs ++ lits8 os).toArray ++ Builtin.zeroCells (Value.int .u8 0).cells (grownCap w (xs.length + os.length) cap 5 - (xs.length + os.length)) = (lits8 ((xs ++ os) ++ List.replicate (grownCap w (xs.length + os.length) cap 5 - (xs.length + os.length)) 0)).toArray := by
        apply Array.ext'
        rw [Array.toList_append, zeros8]
        simp [lits8]
      unfold Row
      rw [← he]
      exact hb
    · have : j = w.heap.size := by simpa [Value.ownBlock] using hj
      omega
  rcases h with ⟨rfl, rfl⟩ | ⟨g, off, n, cap, zs, rfl, h⟩
  · by_cases h0 : os.length = 0
    · have : os = [] := List.eq_nil_of_length_eq_zero h0
      subst this
      refine ⟨.slice none 0 0, w, ?_, .inl ⟨rfl, rfl⟩, Upd.refl _ _, fun j hj => .inl hj⟩
      simp [Builtin.append_, run_underlying Try.underlying37, sizeOf, typeInfo, hi, Builtin.lenOf, Builtin.firstCells, loadCells, loadCellsFrom]
    · exact grow none 0 rfl (by simp; omega) (run_firstCells_none w.drew i0.size 0 0 0)
  · have hle := h.le
    have hf := h.fit
    have hln := h.len
    by_cases hroom : n + os.length ≤ cap
    · have hrun := run_append_room_src (P := Try.prog) w 37 37 ty 5 i0 Try.underlying37 hi g off n cap _ os.length (lits8 os) hsrc hroom (fun j hj => by
        rw [lits8_length] at hj
        rw [hz1, Nat.mul_one, h.row.cell (off + n + j) (by omega)]
        rfl) (fun j hj => h.row.frozen _)
      rw [hz1, Nat.mul_one] at hrun
      obtain ⟨r1, r2, r3⟩ := row_cells os (off + n) h.row (by omega)
      refine ⟨_, _, hrun, .inr ⟨g, off, n + os.length, cap, _, rfl, h.young, r1, by rw [List.length_append, hln], hroom, ?_, ?_, ?_⟩, r3.mono (fun j hj => by rw [hj]; rfl), fun j hj => .inl hj⟩
      · simp only [List.length_append, List.length_take, List.length_drop]; omega
      · have := h.small
        simp only [List.length_append, List.length_take, List.length_drop]; omega
      · have l1 : (zs.take (off + n)).length = off + n := by rw [List.length_take]; omega
        rw [List.append_assoc, List.drop_append_of_le_length (by omega), List.drop_take]
        have e1 : off + n - off = n := by omega
        rw [e1, h.shows, ← List.append_assoc, List.take_append_of_le_length (Nat.le_of_eq (by rw [List.length_append, hln])), ← hln, ← List.length_append, List.take_length]
    · have hold : (Builtin.firstCells i0.size n (.slice (some ⟨g, off, none⟩) n cap)).run Try.prog w.drew = .ok (lits8 xs).toArray w.drew := by
        refine run_firstCells_some w.drew i0.size n ⟨g, off, none⟩ n cap (lits8 xs) (by rw [lits8_length, hz1, Nat.mul_one, hln]) (fun j u hj => ?_)
        have hjl := (List.getElem?_eq_some_iff.1 hj).1
        rw [lits8_length] at hjl
        have hrd := h.row.reads_at off n (by omega) h.small
        rw [h.shows] at hrd
        obtain ⟨ad', e1, e2⟩ := hrd.2.2 (by omega)
        obtain rfl := Option.some.inj e1
        have := e2 j (by omega)
        rw [lits8_get xs j hjl] at hj
        rw [← hj]
        exact this
      subst hln
      exact grow _ cap rfl (by omega) hold
end Go.Proofs.Ytmellidlnggldaa.Ring
