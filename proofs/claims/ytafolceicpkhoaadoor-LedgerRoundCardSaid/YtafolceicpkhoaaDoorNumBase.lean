/- Words of the library's variables, numbers as text: the base of the door seats without policies. -/
import Derived.Test.YtafolceicpkhoaaDoorShelf
import Derived.Test.YtafolceicpkhoaaDoorEnts
import Derived.Test.YtafolceicpkhoaaDoorWWords
import Derived.Test.YtafolceicpkhoaaDoorWLast
import Derived.Test.YtafolceicpkhoaaDoorWMore
import Derived.Lib.LaidU8
import Derived.Lib.ItoaLen
import Derived.Lib.AtoiAllCases
import Derived.Deep.RegionHeld3
import Derived.Deep.DeepCutAuto
import Derived.IntWalk
import Derived.BigQuiet
import Derived.Deep.QuietTactic
import Derived.Laws.ResultCell
import Derived.Lib.Hide
import Derived.WalkSpells
namespace Go.Proofs.YtafolceicpkhoaaDoor.Pol
set_option linter.unusedVariables false
open Go.RowKit Go.Proofs.YtafolceicpkhoaaDoorW.PrintWords Go.Proofs.YtafolceicpkhoaaDoorW.PrintLast Go.Proofs.YtafolceicpkhoaaDoorW.PrintMore
set_option linter.unusedSimpArgs false

theorem var_below {w w' : World} {n : String} {g : Nat} {cs : Array Value} (hg : Tryd.prog.globalNamed n = some g) (hv : w.var? Tryd.prog n = some cs) (hb : Below w.heap.size w w') : w'.var? Tryd.prog n = some cs := by
  unfold World.var? at hv ⊢
  simp only [hg, Option.bind_some] at hv ⊢
  have hlt : g < w.heap.size := by
    by_cases hc : g < w.heap.size
    · exact hc
    · rw [Array.getElem?_eq_none (by omega)] at hv; simp at hv
  rw [hb.block g hlt]
  exact hv
/-- What the library's variables hold. -/
structure Tabs (w : World) : Prop where
  asp : Lib.TabIs Tryd.prog w "strings.asciiSpace" .u8 Lib.asciiSpaceTab
  pow : Lib.TabIs Tryd.prog w "internal/strconv.uint64pow10" .u64 Lib.pow10Tab
theorem gAsp : Tryd.prog.globalNamed "strings.asciiSpace" = some 1 := by kernel_rfl
theorem gPow : Tryd.prog.globalNamed "internal/strconv.uint64pow10" = some 4 := by kernel_rfl
theorem Tabs.below {w w' : World} (h : Tabs w) (hb : Below w.heap.size w w') : Tabs w' where
  asp := var_below gAsp h.asp hb
  pow := var_below gPow h.pow hb
theorem below_grown {w w1 : World} (h : ∃ k os, w1 = Go.Sort.grow (w.drewN k) os) : Below w.heap.size w w1 := by
  obtain ⟨k, os, rfl⟩ := h
  have h1 := pw_below_drewN (Below.refl w.heap.size w) k
  refine ⟨h1.os, h1.tape, h1.output, ?_, fun i hi => ?_⟩
  · show w.heap.size ≤ (w.heap ++ os).size
    simp
  · show (w.heap ++ os)[i]? = w.heap[i]?
    rw [Array.getElem?_append_left hi]
def itB (n : Int) : ByteArray := ⟨(Lib.itoa n).toArray⟩
theorem blk_in {w : World} {b : Nat} {o : Obj} (h : w.heap[b]? = some o) : b < w.heap.size := by
  by_cases hc : b < w.heap.size
  · exact hc
  · rw [Array.getElem?_eq_none (by omega)] at h; cases h
theorem freeOf {u : World} {b : Nat} {cs : Array Value} {t : TypeId} (h : u.heap[b]? = some (.cells cs t)) (i : Nat) : u.frozen? ⟨b, i, none⟩ = false := by
  simp [World.frozen?, h]

/-- What the variables of the two errors hold: errors; and some integer for MaxLen. -/
structure Errs (w : World) : Prop where
  syn : ∃ u v, w.cell? ⟨5, 0, none⟩ = some (.iface u v)
  ran : ∃ u v, w.cell? ⟨6, 0, none⟩ = some (.iface u v)
theorem cell_stays {w w' : World} {g : Nat} {v : Value} (h : w.cell? ⟨g, 0, none⟩ = some v) (hb : Below w.heap.size w w') : w'.cell? ⟨g, 0, none⟩ = some v := by
  rw [← h]
  exact Below.cell hb (p := ⟨g, 0, none⟩) (by simpa using World.block_lt_of_cell? w _ h)
theorem Errs.below {w w' : World} (h : Errs w) (hb : Below w.heap.size w w') : Errs w' := by
  obtain ⟨⟨a, b, h1⟩, ⟨c, d, h2⟩⟩ := h
  exact ⟨⟨a, b, cell_stays h1 hb⟩, ⟨c, d, cell_stays h2 hb⟩⟩
def MaxL (w : World) : Prop := ∃ m, w.cell? ⟨3, 0, none⟩ = some (.int .i64 m)
theorem MaxL.below {w w' : World} (h : MaxL w) (hb : Below w.heap.size w w') : MaxL w' := by
  obtain ⟨m, h⟩ := h
  exact ⟨m, cell_stays h hb⟩

/-- How Atoi ends, at every string. -/
theorem atoiAny (s : ByteArray) (hs : s.size ≤ 281474976710656) (w : World) (hE : Errs w) :
    (∃ v, Lib.atoiAll s.data.toList = .ok v ∧ Calls Tryd.prog 35 #[.string s] w fun e w' => e = .returned (.tuple #[.int .i64 v, .nilIface]) ∧ Below w.heap.size w w') ∨
    ((∀ v, Lib.atoiAll s.data.toList ≠ .ok v) ∧ Calls Tryd.prog 35 #[.string s] w fun e w' => ∃ n t p, e = .returned (.tuple #[.int .i64 n, .iface t p]) ∧ Below w.heap.size w w') := by
  obtain ⟨⟨a, b, h1⟩, ⟨c, d, h2⟩⟩ := hE
  rcases hv : Lib.atoiAll s.data.toList with v | _ | _
  · left
    refine ⟨v, rfl, (Any.strconv_Atoi_ok Tryd.laysC172 s (by omega) v hv w).mono ?_⟩
    rintro e w' ⟨rfl, h⟩
    refine ⟨rfl, ?_⟩
    rcases h with rfl | ⟨t, rfl⟩
    · exact Below.refl _ _
    · exact bytes_below (Below.refl w.heap.size w) (Nat.le_refl _) 5 t
  · right
    refine ⟨fun v => by simp, (Any.strconv_Atoi_syntax Tryd.laysC172 s hs hv _ w h1 (.inr ⟨_, _, rfl⟩)).mono ?_⟩
    rintro e w' ⟨N, rfl, _, _, hb⟩
    exact ⟨_, _, _, rfl, hb⟩
  · right
    refine ⟨fun v => by simp, (Any.strconv_Atoi_range Tryd.laysC172 s hs hv _ w h2 (.inr ⟨_, _, rfl⟩)).mono ?_⟩
    rintro e w' ⟨N, rfl, _, _, hb⟩
    exact ⟨_, _, _, rfl, hb⟩
theorem itoaAny (v : Int) (h0 : -9223372036854775808 ≤ v) (h1 : v ≤ 9223372036854775807) (w : World) (hT : Tabs w) : Calls Tryd.prog 15 #[.int .i64 v] w fun e w' => e = .returned (.string (itB v)) ∧ Below w.heap.size w w' :=
  (Tryd.strconv_Itoa v h0 h1 w hT.pow).mono fun e w' ⟨h, hg⟩ => ⟨h, below_grown hg⟩

def tpB (s : ByteArray) : ByteArray := ⟨(tp s.data.toList).toArray⟩
theorem trimAny (s : ByteArray) (w : World) : Calls Tryd.prog 36 #[.string s, .string { data := #[45] }] w fun e w' => e = .returned (.string (tpB s)) ∧ w = w' :=
  (Tryd.strings_TrimPrefix s ⟨#[45]⟩ w).mono fun e w' ⟨h, hw⟩ => ⟨h, hw.symm⟩
theorem tpB_size (s : ByteArray) : (tpB s).size = (tp s.data.toList).length := by simp [tpB, ByteArray.size]
theorem tpB_list (s : ByteArray) : (tpB s).data.toList = tp s.data.toList := by simp [tpB]
theorem tp_le (l : List UInt8) : (tp l).length ≤ l.length := by
  unfold tp Lib.trimPrefix
  split
  · simp
  · exact Nat.le_refl _

theorem iface_nil (w : World) (t : TypeId) (v : Value) : (binOp .eql 43 (.iface t v) .nilIface).run Tryd.prog w = .ok (.bool false) w := by simp [go_sem]
/-- Splitting at a byte, at every string. -/
theorem pieces_small (sep : ByteArray) : ∀ (k : Nat) (s : ByteArray), ∀ x ∈ Lib.splitB sep 0 k s, x.size ≤ s.size
  | 0, s, x, hx => by
    have : x = s := by simpa [Lib.splitB] using hx
    rw [this]; omega
  | k + 1, s, x, hx => by
    unfold Lib.splitB at hx
    split at hx
    · have : x = s := by simpa using hx
      rw [this]; omega
    · rcases List.mem_cons.1 hx with rfl | h
      · rw [ByteArray.size_extract]; omega
      · have := pieces_small sep k _ x h
        rw [ByteArray.size_extract] at this
        omega
theorem splitW (c : UInt8) (s : ByteArray) (hs : s.size ≤ 500000) (P : List ByteArray) (hP : Lib.splitB ⟨#[c]⟩ 0 (Lib.countB s ⟨#[c]⟩) s = P) (w : World) (hM : MaxL w) :
    Calls Tryd.prog 20 #[.string s, .string ⟨#[c]⟩] w fun e w' => e = .returned (.slice (some ⟨w.heap.size, 0, none⟩) P.length P.length) ∧ w' = w.alloc (.cells (P.map Value.string).toArray 9) := by
  have hl := Lib.splitB_all ⟨#[c]⟩ (by show 1 ≤ 1; omega) 0 _ s rfl
  obtain ⟨m, hm⟩ := hM
  have h := Tryd.strings_Split s ⟨#[c]⟩ m w (by omega) hm (by show 1 ≤ 1; omega)
  rw [← hl, hP] at h
  exact h
theorem pieces_facts (c : UInt8) (s : ByteArray) (hs : s.size ≤ 500000) : (∀ x ∈ Lib.splitB ⟨#[c]⟩ 0 (Lib.countB s ⟨#[c]⟩) s, x.size ≤ s.size) ∧ (Lib.splitB ⟨#[c]⟩ 0 (Lib.countB s ⟨#[c]⟩) s).length = Lib.countB s ⟨#[c]⟩ + 1 ∧ Lib.countB s ⟨#[c]⟩ ≤ s.size :=
  ⟨pieces_small _ _ _, Lib.splitB_all ⟨#[c]⟩ (by show 1 ≤ 1; omega) 0 _ s rfl, Lib.countB_le ⟨#[c]⟩ (by show 1 ≤ 1; omega) _ s (Nat.le_refl _)⟩
end Go.Proofs.YtafolceicpkhoaaDoor.Pol
