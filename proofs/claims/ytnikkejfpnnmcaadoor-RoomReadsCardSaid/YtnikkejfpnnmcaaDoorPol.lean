/- Policies as text: what PolicyText and the reference's PolicyString answer. -/
import Derived.Test.YtnikkejfpnnmcaaDoorShelf
import Derived.Test.YtnikkejfpnnmcaaDoorPolicy
import Derived.Test.YtnikkejfpnnmcaaDoorPolicyFault
import Derived.Lib.LaidU8
import Derived.Lib.ItoaLen
import Derived.Deep.RegionHeld3
import Derived.Deep.DeepCutAuto
import Derived.IntWalk
import Derived.BigQuiet
namespace Go.Proofs.YtnikkejfpnnmcaaDoor.Pol
set_option linter.unusedVariables false
open Go.RowKit Go.Proofs.YtnikkejfpnnmcaaDoorW.PrintWords Go.Proofs.YtnikkejfpnnmcaaDoorW.PrintLast Go.Proofs.YtnikkejfpnnmcaaDoorW.PrintMore Go.Proofs.YtnikkejfpnnmcaaDoor.Policy
set_option linter.unusedSimpArgs false

/-- The words of the kinds. -/
def wds : List (List UInt8) := [[101, 120, 97, 99, 116], [115, 116, 101, 112, 115], [104, 97, 108, 102], [100, 111, 117, 98, 108, 101], [115, 111, 114, 116, 101, 100]]
def wd (j : Nat) : ByteArray := ⟨(wds.getD j []).toArray⟩
theorem wds_fields : Lib.fields (⟨#[101, 120, 97, 99, 116, 32, 115, 116, 101, 112, 115, 32, 104, 97, 108, 102, 32, 100, 111, 117, 98, 108, 101, 32, 115, 111, 114, 116, 101, 100]⟩ : ByteArray).data.toList = wds := by decide +kernel
theorem wd_get (j : Nat) (h : j < 5) : ((wds.map fun l => Value.string ⟨l.toArray⟩).toArray)[j]? = some (.string (wd j)) := by
  have : j = 0 ∨ j = 1 ∨ j = 2 ∨ j = 3 ∨ j = 4 := by omega
  rcases this with rfl | rfl | rfl | rfl | rfl <;> rfl

theorem var_below {w w' : World} {n : String} {g : Nat} {cs : Array Value} (hg : Tryd.prog.globalNamed n = some g) (hv : w.var? Tryd.prog n = some cs) (hb : Below w.heap.size w w') : w'.var? Tryd.prog n = some cs := by
  unfold World.var? at hv ⊢
  simp only [hg, Option.bind_some] at hv ⊢
  have hlt : g < w.heap.size := by
    by_cases hc : g < w.heap.size
    · exact hc
    · rw [Array.getElem?_eq_none (by omega)] at hv; simp at hv
  rw [hb.block g hlt]
  exact hv

/-- What the package's variables hold. -/
structure Tabs (w : World) : Prop where
  asp : Lib.TabIs Tryd.prog w "strings.asciiSpace" .u8 Lib.asciiSpaceTab
  pow : Lib.TabIs Tryd.prog w "internal/strconv.uint64pow10" .u64 Lib.pow10Tab
/-- The reference's words of the kinds. -/
def Words (w : World) : Prop := ∃ b o c, 0 < w.heap.size ∧ w.cell? ⟨0, 0, none⟩ = some (.slice (some ⟨b, o, none⟩) 6 c) ∧ b < w.heap.size ∧ ∀ j, j < 5 → w.cell? ⟨b, o + (j + 1), none⟩ = some (.string (wd j))
theorem gAsp : Tryd.prog.globalNamed "strings.asciiSpace" = some 1 := by kernel_rfl
theorem gPow : Tryd.prog.globalNamed "internal/strconv.uint64pow10" = some 3 := by kernel_rfl
theorem Tabs.below {w w' : World} (h : Tabs w) (hb : Below w.heap.size w w') : Tabs w' where
  asp := var_below gAsp h.asp hb
  pow := var_below gPow h.pow hb
theorem Words.below {w w' : World} (h : Words w) (hb : Below w.heap.size w w') : Words w' := by
  obtain ⟨b, o, c, h0, h1, h2, h3⟩ := h
  refine ⟨b, o, c, Nat.lt_of_lt_of_le h0 hb.size, ?_, Nat.lt_of_lt_of_le h2 hb.size, fun j hj => ?_⟩
  · rw [← h1]; exact hb.cell (p := ⟨0, 0, none⟩) h0
  · rw [← h3 j hj]; exact hb.cell (p := ⟨b, o + (j + 1), none⟩) h2

theorem below_grown {w w1 : World} (h : ∃ k os, w1 = Go.Sort.grow (w.drewN k) os) : Below w.heap.size w w1 := by
  obtain ⟨k, os, rfl⟩ := h
  have h1 := pw_below_drewN (Below.refl w.heap.size w) k
  refine ⟨h1.os, h1.tape, h1.output, ?_, fun i hi => ?_⟩
  · show w.heap.size ≤ (w.heap ++ os).size
    simp
  · show (w.heap ++ os)[i]? = w.heap[i]?
    rw [Array.getElem?_append_left hi]

def itB (n : Int) : ByteArray := ⟨(Lib.itoa n).toArray⟩
theorem itoa (n : Int) (h0 : 0 ≤ n) (h1 : n ≤ 100000) (w : World) (hT : Tabs w) : Calls Tryd.prog 20 #[.int .i64 n] w fun e w' => e = .returned (.string (itB n)) ∧ Below w.heap.size w w' :=
  (Tryd.strconv_Itoa n (by omega) (by omega) w hT.pow).mono fun e w' ⟨h, hg⟩ => ⟨h, below_grown hg⟩
theorem ascii_words : ∀ b ∈ (⟨#[101, 120, 97, 99, 116, 32, 115, 116, 101, 112, 115, 32, 104, 97, 108, 102, 32, 100, 111, 117, 98, 108, 101, 32, 115, 111, 114, 116, 101, 100]⟩ : ByteArray).data.toList, b.toNat < 128 := by decide
theorem fieldsW (w : World) (hT : Tabs w) : Calls Tryd.prog 19 #[.string ⟨#[101, 120, 97, 99, 116, 32, 115, 116, 101, 112, 115, 32, 104, 97, 108, 102, 32, 100, 111, 117, 98, 108, 101, 32, 115, 111, 114, 116, 101, 100]⟩] w fun e w' => e = .returned (.slice (some ⟨w.heap.size, 0, none⟩) 5 5) ∧ w' = w.alloc (.cells (wds.map fun l => Value.string ⟨l.toArray⟩).toArray 9) := by
  have h := Tryd.strings_Fields_laid ⟨#[101, 120, 97, 99, 116, 32, 115, 116, 101, 112, 115, 32, 104, 97, 108, 102, 32, 100, 111, 117, 98, 108, 101, 32, 115, 111, 114, 116, 101, 100]⟩ w (by decide) (fun j b hb => ascii_words b (List.mem_of_getElem? hb)) hT.asp
  rw [wds_fields] at h
  exact h
end Go.Proofs.YtnikkejfpnnmcaaDoor.Pol
