/- Reading a policy that PolicyText wrote. -/
import Derived.Test.YtnikkejfpnnmcaaDoorPolLaw
import Derived.Test.YtnikkejfpnnmcaaDoorNum
import Derived.Laws.ResultCell
namespace Go.Proofs.YtnikkejfpnnmcaaDoor.Pol
set_option linter.unusedVariables false
open Go.RowKit Go.Proofs.YtnikkejfpnnmcaaDoorW.PrintWords Go.Proofs.YtnikkejfpnnmcaaDoorW.PrintLast Go.Proofs.YtnikkejfpnnmcaaDoorW.PrintMore Go.Proofs.YtnikkejfpnnmcaaDoor.Policy
set_option linter.unusedSimpArgs false

theorem nD (k : Nat) : ∀ u, u < 10 ^ (k + 1) → Lib.nDigits u ≤ k + 1 := by
  induction k with
  | zero => intro u h; rw [Lib.nDigits_small (by simpa using h)]; omega
  | succ k ih =>
    intro u h
    by_cases hs : u < 10
    · rw [Lib.nDigits_small hs]; omega
    · rw [Lib.nDigits_big hs]
      have := ih (u / 10) (by rw [Nat.pow_succ] at h; omega)
      omega
theorem itB_small (n : Int) (h0 : 0 ≤ n) (h1 : n ≤ 100000) : (itB n).size ≤ 6 := by
  have e : (itB n).size = (Lib.itoa n).length := by simp [itB, ByteArray.size]
  rw [e, itoa_dec n h0, Lib.decDigits_length]
  exact nD 5 _ (by omega)

set_option maxHeartbeats 2000000 in
set_option maxRecDepth 100000 in
theorem number_ok (n : Int) (h0 : 0 ≤ n) (h1 : n ≤ 100000) (w : World) (hT : Tabs w) :
    Calls Tryd.prog 24 #[.string (itB n)] w fun e w' => e = .returned (.tuple #[.int .i64 n, .bool true]) ∧ Below w.heap.size w w' := by
  have hs := itB_small n h0 h1
  have hat : Lib.atoi (itB n).data.toList = some n := by simpa [itB] using atoi_itoa n h0
  have HA := Aside0.mk (Tryd.strconv_Atoi (itB n) n (by omega) hat w)
  have HB := Aside0.mk (fun t => bytes_below (Below.refl w.heap.size w) (Nat.le_refl _) 5 t)
  have HI := Aside0.mk (fun t => itoa n h0 h1 _ (hT.below (HB.out t)))
  have htr : (⟨(Lib.trimPrefix (itB n).data.toList (⟨#[45]⟩ : ByteArray).data.toList).toArray⟩ : ByteArray) = itB n := by
    have h := trim_dec n.toNat
    rw [← itoa_dec n h0] at h
    have e : (itB n).data.toList = Lib.itoa n := by simp [itB]
    rw [e]
    show (⟨(Lib.trimPrefix (Lib.itoa n) [45]).toArray⟩ : ByteArray) = itB n
    rw [h]; rfl
  have HTR := Aside0.mk (fun u => Tryd.strings_TrimPrefix (itB n) ⟨#[45]⟩ u)
  rw [htr] at HTR
  clear hT hat htr
  generalize itB n = S at *
  have hd9 : decide ((S.size : Int) ≤ 9) = true := decide_eq_true (by omega)
  go_enter Tryd.func24, Tryd.ntmps24
  go_wp2_with fail
  refine HA.out.mono ?_
  rintro e w1 ⟨rfl, t, rfl⟩
  go_wp2_with fail
  refine (HI.out t).mono ?_
  rintro e w2 ⟨rfl, hb2⟩
  have H2 := Aside0.mk (below_then (HB.out t) (HB.out t).size hb2)
  clear hb2
  go_wp2_with fail
  refine (HTR.out _).mono ?_
  rintro e w3 ⟨rfl, rfl⟩
  go_wp2_with fail
  go_ret2
  exact ⟨rfl, H2.out⟩

theorem indexW (j : Nat) (hj : j < 5) (b : Nat) (w : World) (hc : ∀ i, i < 5 → w.cell? ⟨b, i, none⟩ = some (.string (wd i))) : Calls Tryd.prog 23 #[.slice (some ⟨b, 0, none⟩) 5 5, .string (wd j)] w fun e w' => e = .returned (.int .i64 j) ∧ w' = w := by
  have h := Tryd.slices_Index_string b 0 5 5 [wd 0, wd 1, wd 2, wd 3, wd 4] (wd j) w (by simp) (by omega) (fun i hi => by
    have hi' : i < 5 := by simpa using hi
    rw [Nat.zero_add, hc i hi']
    have : i = 0 ∨ i = 1 ∨ i = 2 ∨ i = 3 ∨ i = 4 := by omega
    rcases this with rfl | rfl | rfl | rfl | rfl <;> rfl)
  have e : Lib.idxOfS ([wd 0, wd 1, wd 2, wd 3, wd 4].take 5) (wd j) = (j : Int) := by
    have : j = 0 ∨ j = 1 ∨ j = 2 ∨ j = 3 ∨ j = 4 := by omega
    rcases this with rfl | rfl | rfl | rfl | rfl <;> decide +kernel
  rw [e] at h
  exact h

theorem fieldsX (w : World) (hT : Tabs w) : Calls Tryd.prog 19 #[.string ⟨#[101, 120, 97, 99, 116, 32, 115, 116, 101, 112, 115, 32, 104, 97, 108, 102, 32, 100, 111, 117, 98, 108, 101, 32, 115, 111, 114, 116, 101, 100]⟩] w fun e w' => ∃ b, e = .returned (.slice (some ⟨b, 0, none⟩) 5 5) ∧ (∀ i, i < 5 → w'.cell? ⟨b, i, none⟩ = some (.string (wd i))) ∧ Below w.heap.size w w' := by
  refine (fieldsW w hT).mono ?_
  rintro e w' ⟨rfl, rfl⟩
  exact ⟨_, rfl, fun i hi => by rw [blk_cell (blk_new w _)]; exact wd_get i hi, below_alloc (Below.refl _ _) _⟩

/-- The parts of a policy's text. -/
def parts (j : Nat) (s m : Int) : List ByteArray := if j = 1 then [wd 1, itB s, itB m] else [wd j, itB m]
theorem pol_one (s m : Int) : polT 1 s m = ⟨(wds.getD 1 [] ++ 32 :: (Lib.itoa s ++ 32 :: Lib.itoa m)).toArray⟩ := by
  apply ByteArray.ext
  simp [polT, wd, itB, ByteArray.data_append]
theorem pol_other (j : Nat) (hj : j ≠ 1) (s m : Int) : polT j s m = ⟨(wds.getD j [] ++ 32 :: Lib.itoa m).toArray⟩ := by
  apply ByteArray.ext
  simp [polT, wd, itB, ByteArray.data_append, hj]
theorem wds_no (j : Nat) (h : j < 5) : ∀ b ∈ wds.getD j [], b ≠ 32 := by
  have : j = 0 ∨ j = 1 ∨ j = 2 ∨ j = 3 ∨ j = 4 := by omega
  rcases this with rfl | rfl | rfl | rfl | rfl <;> decide
theorem itoa_no (n : Int) (h0 : 0 ≤ n) : ∀ b ∈ Lib.itoa n, b ≠ 32 := by
  rw [itoa_dec n h0]; exact no_space
theorem count_no (l : List UInt8) (h : ∀ b ∈ l, b ≠ 32) : l.count 32 = 0 := List.count_eq_zero.2 (fun hm => h 32 hm rfl)
theorem split_pol (j : Nat) (hj : j < 5) (s m : Int) (hs : j = 1 → 0 ≤ s) (hm : 0 ≤ m) : Lib.countB (polT j s m) ⟨#[32]⟩ + 1 = (parts j s m).length ∧ Lib.splitB ⟨#[32]⟩ 0 (Lib.countB (polT j s m) ⟨#[32]⟩) (polT j s m) = parts j s m := by
  by_cases h1 : j = 1
  · subst h1
    have hc : Lib.countB (polT 1 s m) ⟨#[32]⟩ = 2 := by
      rw [pol_one]
      show Lib.count (wds.getD 1 [] ++ 32 :: (Lib.itoa s ++ 32 :: Lib.itoa m)).toArray.toList [32] = 2
      rw [Lib.count_one]
      simp only [List.toList_toArray, List.count_append, List.count_cons_self, count_no _ (wds_no 1 (by omega)), count_no _ (itoa_no s (hs rfl)), count_no _ (itoa_no m hm)]
    rw [hc]
    refine ⟨rfl, ?_⟩
    rw [pol_one, split_more _ _ (wds_no 1 (by omega)), split_more _ _ (itoa_no s (hs rfl)), split_last _ (itoa_no m hm)]
    rfl
  · have hc : Lib.countB (polT j s m) ⟨#[32]⟩ = 1 := by
      rw [pol_other j h1]
      show Lib.count (wds.getD j [] ++ 32 :: Lib.itoa m).toArray.toList [32] = 1
      rw [Lib.count_one]
      simp only [List.toList_toArray, List.count_append, List.count_cons_self, count_no _ (wds_no j hj), count_no _ (itoa_no m hm)]
    rw [hc]
    have hp : parts j s m = [wd j, itB m] := by unfold parts; rw [if_neg h1]
    rw [hp]
    refine ⟨rfl, ?_⟩
    rw [pol_other j h1, split_more _ _ (wds_no j hj), split_last _ (itoa_no m hm)]
    rfl
theorem pol_size (j : Nat) (s m : Int) (hs : j = 1 → 0 ≤ s ∧ s ≤ 100000) (hm : 0 ≤ m ∧ m ≤ 100000) : (polT j s m).size ≤ 30 := by
  have a := wd_size j
  have c := itB_small m hm.1 hm.2
  unfold polT
  split
  · rename_i h
    have b := itB_small s (hs h).1 (hs h).2
    have e : (⟨#[32]⟩ : ByteArray).size = 1 := rfl
    simp only [ByteArray.size_append, e]
    omega
  · have e : (⟨#[32]⟩ : ByteArray).size = 1 := rfl
    simp only [ByteArray.size_append, e]
    omega
theorem splitW (j : Nat) (hj : j < 5) (s m : Int) (hs : j = 1 → 0 ≤ s ∧ s ≤ 100000) (hm : 0 ≤ m ∧ m ≤ 100000) (mx : Int) (w : World) (hx : w.cell? ⟨4, 0, none⟩ = some (.int .i64 mx)) : Calls Tryd.prog 22 #[.string (polT j s m), .string ⟨#[32]⟩] w fun e w' => e = .returned (.slice (some ⟨w.heap.size, 0, none⟩) (parts j s m).length (parts j s m).length) ∧ w' = w.alloc (.cells ((parts j s m).map Value.string).toArray 9) := by
  have hz := pol_size j s m hs hm
  obtain ⟨h1, h2⟩ := split_pol j hj s m (fun h => (hs h).1) hm.1
  have h := Tryd.strings_Split (polT j s m) ⟨#[32]⟩ mx w (by omega) hx (by decide)
  rw [h1, h2] at h
  exact h

/-- In the midst of ReadPolicy: the result's block, the parts' block. -/
structure ReadMid (w w' : World) (a : ByteArray) (L : List ByteArray) : Prop where
  tabs : Tabs w'
  below : Below w.heap.size w w'
  list : w'.heap[w.heap.size + 1]? = some (.cells ((a :: L).map Value.string).toArray 9)
  res : w'.heap[w.heap.size]? = some (.cells #[.int .i64 0, .int .i64 0, .int .i64 0] 23)
theorem ReadMid.c0 {w w' : World} {a : ByteArray} {L : List ByteArray} (h : ReadMid w w' a L) : w'.cell? ⟨w.heap.size + 1, 0, none⟩ = some (.string a) := by rw [blk_cell h.list]; rfl
theorem blk_in {w : World} {b : Nat} {o : Obj} (h : w.heap[b]? = some o) : b < w.heap.size := by
  by_cases hc : b < w.heap.size
  · exact hc
  · rw [Array.getElem?_eq_none (by omega)] at h; cases h
theorem ReadMid.later {w u u' : World} {a : ByteArray} {L : List ByteArray} (h : ReadMid w u a L) (hb : Below u.heap.size u u') : ReadMid w u' a L :=
  ⟨h.tabs.below hb, below_then h.below h.below.size hb, (hb.block _ (blk_in h.list)).trans h.list, (hb.block _ (blk_in h.res)).trans h.res⟩
theorem keepMid {w u u' : World} {a : ByteArray} {L : List ByteArray} {B : Nat} (hb : Below u.heap.size u u') (h : u.cell? ⟨w.heap.size + 1, 0, none⟩ = some (.string a) ∧ Aside0 (ReadMid w u a L ∧ B ≤ u.heap.size)) : u'.cell? ⟨w.heap.size + 1, 0, none⟩ = some (.string a) ∧ Aside0 (ReadMid w u' a L ∧ B ≤ u'.heap.size) :=
  ⟨(h.2.out.1.later hb).c0, ⟨h.2.out.1.later hb, Nat.le_trans h.2.out.2 hb.size⟩⟩
theorem midOf {w u : World} {a : ByteArray} {L : List ByteArray} {B : Nat} (h : u.cell? ⟨w.heap.size + 1, 0, none⟩ = some (.string a) ∧ Aside0 (ReadMid w u a L ∧ B ≤ u.heap.size)) : ReadMid w u a L := h.2.out.1

theorem ReadMid.put {w u : World} {a : ByteArray} {L : List ByteArray} (h : ReadMid w u a L) (hT : Tabs w) (g i : Nat) (hg : w.heap.size + 1 < g) (v : Value) : ReadMid w (u.setCell ⟨g, i, none⟩ v) a L := by
  have hb : Below w.heap.size w (u.setCell ⟨g, i, none⟩ v) := h.below.setCell (show w.heap.size ≤ g by omega) v
  exact ⟨hT.below hb, hb, (Below.heap_setCell u ⟨g, i, none⟩ v _ (by show w.heap.size + 1 ≠ g; omega)).trans h.list, (Below.heap_setCell u ⟨g, i, none⟩ v _ (by show w.heap.size ≠ g; omega)).trans h.res⟩

theorem keepPut {w u : World} {a : ByteArray} {L : List ByteArray} {B : Nat} (hT : Tabs w) (hB : w.heap.size + 1 < B) (g : Nat) (hg : B ≤ g) (v0 v1 v2 : Value) (h : u.cell? ⟨w.heap.size + 1, 0, none⟩ = some (.string a) ∧ Aside0 (ReadMid w u a L ∧ B ≤ u.heap.size)) :
    (((u.setCell ⟨g, 0, none⟩ v0).setCell ⟨g, 1, none⟩ v1).setCell ⟨g, 2, none⟩ v2).cell? ⟨w.heap.size + 1, 0, none⟩ = some (.string a) ∧ Aside0 (ReadMid w (((u.setCell ⟨g, 0, none⟩ v0).setCell ⟨g, 1, none⟩ v1).setCell ⟨g, 2, none⟩ v2) a L ∧ B ≤ (((u.setCell ⟨g, 0, none⟩ v0).setCell ⟨g, 1, none⟩ v1).setCell ⟨g, 2, none⟩ v2).heap.size) := by
  have h1 := ((h.2.out.1.put hT g 0 (by omega) v0).put hT g 1 (by omega) v1).put hT g 2 (by omega) v2
  exact ⟨h1.c0, ⟨h1, by have := h.2.out.2; simpa [World.setCell] using this⟩⟩
theorem putThree {u : World} {g : Nat} {t : TypeId} (h : u.heap[g]? = some (.cells #[.int .i64 0, .int .i64 0, .int .i64 0] t)) (v0 v1 v2 : Value) : (((u.setCell ⟨g, 0, none⟩ v0).setCell ⟨g, 1, none⟩ v1).setCell ⟨g, 2, none⟩ v2).heap[g]? = some (.cells #[v0, v1, v2] t) := by
  have e := blk_set (blk_set (blk_set h 0 v0) 1 v1) 2 v2
  simpa using e

theorem midSize {w u : World} {a : ByteArray} {L : List ByteArray} {B : Nat} (h : u.cell? ⟨w.heap.size + 1, 0, none⟩ = some (.string a) ∧ Aside0 (ReadMid w u a L ∧ B ≤ u.heap.size)) : B ≤ u.heap.size := h.2.out.2
theorem newCells (u : World) : (u.alloc (.cells #[.int .i64 0, .int .i64 0, .int .i64 0] 23)).cell? ⟨u.heap.size, 0, none⟩ = some (.int .i64 0) ∧ (u.alloc (.cells #[.int .i64 0, .int .i64 0, .int .i64 0] 23)).cell? ⟨u.heap.size, 1, none⟩ = some (.int .i64 0) ∧ (u.alloc (.cells #[.int .i64 0, .int .i64 0, .int .i64 0] 23)).cell? ⟨u.heap.size, 2, none⟩ = some (.int .i64 0) := by
  refine ⟨?_, ?_, ?_⟩ <;> rw [blk_cell (blk_new u _)] <;> rfl
theorem freeOf {u : World} {b : Nat} {cs : Array Value} {t : TypeId} (h : u.heap[b]? = some (.cells cs t)) (i : Nat) : u.frozen? ⟨b, i, none⟩ = false := by
  simp [World.frozen?, h]
theorem newFree (u : World) (i : Nat) : (u.alloc (.cells #[.int .i64 0, .int .i64 0, .int .i64 0] 23)).frozen? ⟨u.heap.size, i, none⟩ = false := freeOf (blk_new u _) i
theorem allocKeep {v u' : World} (h : Below (v.alloc (.cells #[.int .i64 0, .int .i64 0, .int .i64 0] 23)).heap.size (v.alloc (.cells #[.int .i64 0, .int .i64 0, .int .i64 0] 23)) u') : u'.heap[v.heap.size]? = some (.cells #[.int .i64 0, .int .i64 0, .int .i64 0] 23) :=
  (h.block _ (by simp)).trans (blk_new v _)
theorem allocCells {v u' : World} (h : Below (v.alloc (.cells #[.int .i64 0, .int .i64 0, .int .i64 0] 23)).heap.size (v.alloc (.cells #[.int .i64 0, .int .i64 0, .int .i64 0] 23)) u') : u'.cell? ⟨v.heap.size, 0, none⟩ = some (.int .i64 0) ∧ u'.cell? ⟨v.heap.size, 1, none⟩ = some (.int .i64 0) ∧ u'.cell? ⟨v.heap.size, 2, none⟩ = some (.int .i64 0) ∧ ∀ i, u'.frozen? ⟨v.heap.size, i, none⟩ = false := by
  have h := allocKeep h
  refine ⟨?_, ?_, ?_, fun i => freeOf h i⟩ <;> rw [blk_cell h] <;> rfl

theorem allocKeepD {v u' : World} (h : Below (v.alloc (.cells #[.int .i64 0, .int .i64 0, .int .i64 0] 23)).drew.heap.size (v.alloc (.cells #[.int .i64 0, .int .i64 0, .int .i64 0] 23)).drew u') : u'.heap[v.heap.size]? = some (.cells #[.int .i64 0, .int .i64 0, .int .i64 0] 23) := (h.block _ (by show v.heap.size < (v.alloc (.cells #[.int .i64 0, .int .i64 0, .int .i64 0] 23)).heap.size; simp)).trans (blk_new v _)
theorem allocCellsD {v u' : World} (h : Below (v.alloc (.cells #[.int .i64 0, .int .i64 0, .int .i64 0] 23)).drew.heap.size (v.alloc (.cells #[.int .i64 0, .int .i64 0, .int .i64 0] 23)).drew u') : u'.cell? ⟨v.heap.size, 0, none⟩ = some (.int .i64 0) ∧ u'.cell? ⟨v.heap.size, 1, none⟩ = some (.int .i64 0) ∧ u'.cell? ⟨v.heap.size, 2, none⟩ = some (.int .i64 0) ∧ ∀ i, u'.frozen? ⟨v.heap.size, i, none⟩ = false := by
  have h9 : u'.heap[v.heap.size]? = some (.cells #[.int .i64 0, .int .i64 0, .int .i64 0] 23) := (h.block _ (by show v.heap.size < (v.alloc (.cells #[.int .i64 0, .int .i64 0, .int .i64 0] 23)).heap.size; simp)).trans (blk_new v _)
  refine ⟨?_, ?_, ?_, fun i => freeOf h9 i⟩ <;> rw [blk_cell h9] <;> rfl

end Go.Proofs.YtnikkejfpnnmcaaDoor.Pol
