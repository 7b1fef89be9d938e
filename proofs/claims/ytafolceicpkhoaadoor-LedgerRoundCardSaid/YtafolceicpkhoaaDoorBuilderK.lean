/- strings.Builder, with a word on the blocks that a write leaves alone. -/
import Derived.Test.YtafolceicpkhoaaDoorBuilder
import Derived.Test.YtafolceicpkhoaaDoorNumBase
namespace Go.Proofs.YtafolceicpkhoaaDoor.Bld
open Go.RowKit Go.Proofs.YtafolceicpkhoaaDoorW.PrintWords
set_option linter.unusedVariables false
set_option linter.unusedSimpArgs false

/-- Blocks of other types than octets stay, but for the builder's own. -/
def Keeps (b : Nat) (w w' : World) : Prop := ∀ k cs t, w.heap[k]? = some (.cells cs t (0, 0)) → t ≠ 5 → k ≠ b → w'.heap[k]? = w.heap[k]?
theorem Keeps.trans {b : Nat} {w w1 w2 : World} (h : Keeps b w w1) (g : Keeps b w1 w2) : Keeps b w w2 := fun k cs t h1 h2 h3 => (g k cs t ((h k cs t h1 h2 h3).trans h1) h2 h3).trans (h k cs t h1 h2 h3)
theorem Keeps.of_below {b : Nat} {w w' : World} (h : Below w.heap.size w w') : Keeps b w w' := fun k cs t h1 _ _ => h.block k (by
  by_cases hc : k < w.heap.size
  · exact hc
  · rw [Array.getElem?_eq_none (by omega)] at h1; cases h1)
theorem builder_keep {B b : Nat} {bs : List Value} {w w' : World} (h : Lib.IsBuilder 40 5 B b bs w) (hb : Below w.heap.size w w') : Lib.IsBuilder 40 5 B b bs w' := by
  have mv : ∀ p, Lib.BuilderAt 40 5 B b p bs w → Lib.BuilderAt 40 5 B b p bs w' := by
    intro p hp
    have hbb := hb.block b hp.lt
    obtain ⟨h1, v, h2, h3, h4⟩ := hp
    exact ⟨h1, v, hbb.trans h2, own_move h3 (fun k hk => hb.block k (h3.lt k hk).2), h4⟩
  exact h.imp (mv _) (mv _)
theorem newB (w : World) : Lib.IsBuilder 40 5 w.heap.size w.heap.size [] (w.alloc (.cells #[.pointer none, .slice none 0 0] 40)) :=
  .inl ⟨Nat.le_refl _, .slice none 0 0, blk_new w _, own_nil _ _ _ _, by simp [Value.ownBlock]⟩

theorem copyCheckK (B b : Nat) (bs : List Value) (w : World) (h : Lib.IsBuilder 40 5 B b bs w) :
    Calls Tryd.prog 26 #[.pointer (some ⟨b, 0, none⟩)] w fun e w' => e = .returned (.tuple #[]) ∧ Lib.BuilderAt 40 5 B b (.pointer (some ⟨b, 0, none⟩)) bs w' ∧ Below B w w' ∧ Hid (∀ k, k ≠ b → w'.heap[k]? = w.heap[k]?) := by
  rcases h with h | h
  · refine (fresh b w h.cell0 h.shape h.frozen0).mono ?_
    rintro e w' ⟨rfl, rfl⟩
    exact ⟨rfl, h.used _, (Below.refl B w).setCell (p := ⟨b, 0, none⟩) h.1 _, Lib.hid (fun k hk => Below.heap_setCell w ⟨b, 0, none⟩ _ k hk)⟩
  · refine (used b w h.cell0).mono ?_
    rintro e w' ⟨rfl, rfl⟩
    exact ⟨rfl, h, Below.refl B _, Lib.hid (fun _ _ => rfl)⟩

set_option maxHeartbeats 2000000 in
set_option maxRecDepth 100000 in
theorem writeByteK (B b : Nat) (bs : List Value) (c : Int) (w : World) (h : Lib.IsBuilder 40 5 B b bs w) (hlen : bs.length + 1 ≤ 140737488355328) (hBw : B ≤ w.heap.size) :
    Calls Tryd.prog 16 #[.pointer (some ⟨b, 0, none⟩), .int .u8 c] w fun e w' => e = .returned .nilIface ∧ (Lib.BuilderAt 40 5 B b (.pointer (some ⟨b, 0, none⟩)) (bs ++ [.int .u8 c]) w' ∧ Below B w w' ∧ Keeps b w w') := by
  obtain ⟨i0, hi, hz0, hz1, hz2⟩ := info_parts infoB
  go_enter Tryd.func16, Tryd.ntmps16
  go_wp2_with (go_at_call 26; refine (copyCheckK B b bs _ h).mono ?_)
  rintro e w1 ⟨rfl, h1, hb1, HK1⟩
  obtain ⟨hB, v, hbk, hown, hne⟩ := h1
  have c0 : w1.cell? ⟨b, 0, none⟩ = some (.pointer (some ⟨b, 0, none⟩)) := by rw [Lib.cell_of_heap hbk]; rfl
  have c1 : w1.cell? ⟨b, 1, none⟩ = some v := by rw [Lib.cell_of_heap hbk]; rfl
  go_wp2_with (at_builtin; refine wpList_append_own _ rfl _ _ 38 rfl B 5 i0 (.int .u8 0) 1 1 Tryd.underlying38 hi hz0 hz1 hz2 rfl (by decide) _ _ _ rfl (hown.alloc _) ⟨w1.heap.size, 0, none⟩ 1 1 [.int .u8 c] rfl rfl ?c1 ?c2 ?c3 ?c4 ?c5 ?_)
  case c1 =>
    intro j u hj
    match j, hj with
    | 0, hj => simp at hj; subst hj; simp [Addr.add]
  case c2 => intro u hu; simp at hu; subst hu; rfl
  case c3 => unfold maxLen; omega
  case c4 => omega
  case c5 => have := hb1.size; simp; omega
  intro v' w2 hown' hgrow _
  have hlt : b < w1.heap.size := (Array.getElem?_eq_some_iff.1 hbk).1
  have hb2 : w2.heap[b]? = some (.cells #[.pointer (some ⟨b, 0, none⟩), v] 40 (0, 0)) := by
    rw [hgrow.block b (by simp; omega) (fun e => hne e.symm), Lib.alloc_old w1 _ b hlt]
    exact hbk
  have d0 : w2.cell? ⟨b, 0, none⟩ = some (.pointer (some ⟨b, 0, none⟩)) := by rw [Lib.cell_of_heap hb2]; rfl
  have d1 : w2.cell? ⟨b, 1, none⟩ = some v := by rw [Lib.cell_of_heap hb2]; rfl
  have f1 : w2.frozen? ⟨b, 1, none⟩ = false := Lib.frozen_of_heap hb2 1
  obtain ⟨g, cap, rfl⟩ : ∃ g cap, v' = .slice (some ⟨g, 0, none⟩) (bs.length + 1) cap := by
    rcases hown'.2 with ⟨_, h0⟩ | ⟨g, cap, cur, hv, _⟩
    · omega
    · exact ⟨g, cap, hv⟩
  go_wp2
  go_ret
  refine ⟨rfl, ?_, ?_, ?_⟩
  · exact Lib.BuilderAt.put (T := 40) (e := 5) hB hb2 (bs' := bs ++ [.int .u8 c]) (by simpa using hown') (by decide)
  · exact ((hb1.alloc (by have := hb1.size; omega) _).grown hgrow (by have := hb1.size; simp; omega) (fun k hk => (hown.lt k hk).1)).setCell (p := ⟨b, 1, none⟩) hB _
  · intro k cs t h1 h2 h3
    have h4 : w1.heap[k]? = some (.cells cs t (0, 0)) := (HK1.out k h3).trans h1
    have hk : k < w1.heap.size := (Array.getElem?_eq_some_iff.1 h4).1
    rw [Below.heap_setCell w2 ⟨b, 1, none⟩ _ k h3, hgrow.block k (by simp; omega) (fun e => Lib.ownBlock_ne hown h4 h2 e.symm), Lib.alloc_old w1 _ k hk, h4, h1]

set_option maxHeartbeats 2000000 in
set_option maxRecDepth 100000 in
theorem writeStringK (B b : Nat) (bs : List Value) (s : ByteArray) (w : World) (h : Lib.IsBuilder 40 5 B b bs w) (hlen : bs.length + s.size ≤ 140737488355328) (hBw : B ≤ w.heap.size) :
    Calls Tryd.prog 12 #[.pointer (some ⟨b, 0, none⟩), .string s] w fun e w' => e = .returned (.tuple #[.int .i64 s.size, .nilIface]) ∧ (Lib.BuilderAt 40 5 B b (.pointer (some ⟨b, 0, none⟩)) (bs ++ Lib.strCells s) w' ∧ Below B w w' ∧ Keeps b w w') := by
  obtain ⟨i0, hi, hz0, hz1, hz2⟩ := info_parts infoB
  go_enter Tryd.func12, Tryd.ntmps12
  go_wp2_with (go_at_call 26; refine (copyCheckK B b bs _ h).mono ?_)
  rintro e w1 ⟨rfl, h1, hb1, HK1⟩
  obtain ⟨hB, v, hbk, hown, hne⟩ := h1
  have c0 : w1.cell? ⟨b, 0, none⟩ = some (.pointer (some ⟨b, 0, none⟩)) := by rw [Lib.cell_of_heap hbk]; rfl
  have c1 : w1.cell? ⟨b, 1, none⟩ = some v := by rw [Lib.cell_of_heap hbk]; rfl
  go_wp2_with (at_builtin; refine Lib.wpList_append_own_string _ rfl _ _ 38 9 rfl B 5 i0 Tryd.underlying38 Tryd.underlying9 hi hz0 hz1 hz2 _ _ _ rfl hown s rfl ?c3 ?c4 ?c5 ?_)
  case c3 => unfold maxLen; omega
  case c4 => omega
  case c5 => have := hb1.size; omega
  intro v' w2 hown' hgrow _
  have hlt : b < w1.heap.size := (Array.getElem?_eq_some_iff.1 hbk).1
  have hb2 : w2.heap[b]? = some (.cells #[.pointer (some ⟨b, 0, none⟩), v] 40 (0, 0)) := by
    rw [hgrow.block b hlt (fun e => hne e.symm)]
    exact hbk
  have d0 : w2.cell? ⟨b, 0, none⟩ = some (.pointer (some ⟨b, 0, none⟩)) := by rw [Lib.cell_of_heap hb2]; rfl
  have d1 : w2.cell? ⟨b, 1, none⟩ = some v := by rw [Lib.cell_of_heap hb2]; rfl
  have f1 : w2.frozen? ⟨b, 1, none⟩ = false := Lib.frozen_of_heap hb2 1
  obtain ⟨ao, n', cap, rfl⟩ : ∃ ao n' cap, v' = .slice ao n' cap := by
    rcases hown'.2 with ⟨hv, _⟩ | ⟨g, cap, cur, hv, _⟩
    · exact ⟨_, _, _, hv⟩
    · exact ⟨_, _, _, hv⟩
  go_wp2
  go_ret2
  refine ⟨rfl, ?_, ?_, ?_⟩
  · exact Lib.BuilderAt.put (T := 40) (e := 5) hB hb2 (bs' := bs ++ Lib.strCells s) (by simpa [Lib.strCells_length] using hown') (by decide)
  · exact (hb1.grown hgrow (by have := hb1.size; omega) (fun k hk => (hown.lt k hk).1)).setCell (p := ⟨b, 1, none⟩) hB _
  · intro k cs t h1 h2 h3
    have h4 : w1.heap[k]? = some (.cells cs t (0, 0)) := (HK1.out k h3).trans h1
    have hk : k < w1.heap.size := (Array.getElem?_eq_some_iff.1 h4).1
    rw [Below.heap_setCell w2 ⟨b, 1, none⟩ _ k h3, hgrow.block k hk (fun e => Lib.ownBlock_ne hown h4 h2 e.symm), h4, h1]
theorem stringK (B b : Nat) (l : List UInt8) (w : World) (h : Lib.IsBuilder 40 5 B b (Lib.byteCells l) w) (hBw : B ≤ w.heap.size) :
    Calls Tryd.prog 17 #[.pointer (some ⟨b, 0, none⟩)] w fun e w' => e = .returned (.string ⟨l.toArray⟩) ∧ Below B w w' := by
  cases l with
  | nil => exact Tryd.Builder_String_empty B b w h hBw
  | cons c l => exact Tryd.Builder_String B b (c :: l) w h (by simp)
end Go.Proofs.YtafolceicpkhoaaDoor.Bld
