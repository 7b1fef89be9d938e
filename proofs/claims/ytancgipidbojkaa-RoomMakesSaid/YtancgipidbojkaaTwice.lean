/- twice: the same octets in two new rows. -/
import Derived.Test.YtancgipidbojkaaMakes
import Derived.Test.YtancgipidbojkaaBook
namespace Go.Proofs.Ytancgipidbojkaa.Twin
open Go.RowKit Go.Proofs.YtancgipidbojkaaW.PrintWords Go.Proofs.YtancgipidbojkaaW.PrintLast Go.Proofs.YtancgipidbojkaaW.PrintMore
set_option linter.unusedSimpArgs false

theorem Row.cell {w : World} {g : Nat} {ys : List Int} (h : Row w g ys) (k : Nat) (hk : k < ys.length) : w.cell? ⟨g, k, none⟩ = some (.int .u8 (ys.getD k 0)) := by
  rw [blk_cell h k, List.getElem?_toArray, lits8_get ys k hk]
theorem Row.frozen {w : World} {g : Nat} {ys : List Int} (h : Row w g ys) (k : Nat) : w.frozen? ⟨g, k, none⟩ = false := blk_frozen h k
theorem Row.put {w : World} {g : Nat} {ys : List Int} (h : Row w g ys) (k : Nat) (x : Int) : Row (w.setCell ⟨g, k, none⟩ (.int .u8 x)) g (ys.set k x) := by
  have e := blk_set h k (.int .u8 x)
  unfold Row
  rw [e]
  simp [lits8, List.map_set]
theorem Row.far {w : World} {g : Nat} {ys : List Int} (h : Row w g ys) (q : Addr) (hq : g ≠ q.block) (v : Value) : Row (w.setCell q v) g ys := blk_far h hq v

theorem Row.spliced {w : World} {g : Nat} {zs : List Int} (h : Row w g zs) (xs : List Int) (cs : Array Value) (hcs : cs = (lits8 (xs ++ zs.drop xs.length)).toArray) : Row (w.setRow g cs) g (xs ++ zs.drop xs.length) := by
  subst hcs
  exact setRow_heap _ _ _ _ _ _ h
theorem Row.other {w : World} {g g' : Nat} {ys : List Int} (h : Row w g ys) (hne : g ≠ g') (cs : Array Value) : Row (w.setRow g' cs) g ys := (setRow_other w g' g cs hne).trans h

set_option maxHeartbeats 4000000 in
set_option maxRecDepth 100000 in
theorem twice (A : Option Addr) (m c : Nat) (xs : List Int) (w : World) (hr : ReadsInt w .u8 A m xs) (hm : m ≤ 140737488355328) :
    Calls Try.prog 18 #[.slice A m c, .int .i64 ((m : Int) + 3)] w fun e w' => ∃ g1 g2 zs, e = .returned (.tuple #[.slice (some ⟨g1, 0, none⟩) m (m + 3), .slice (some ⟨g2, 0, none⟩) m (m + 3)]) ∧ g1 ≠ g2 ∧ w.heap.size ≤ g1 ∧ w.heap.size ≤ g2 ∧ Row w' g1 (xs ++ zs) ∧ Row w' g2 (xs ++ zs) ∧ zs.length = 3 ∧ Below w.heap.size w w' := by
  have hmk : ∀ u : World, (Instr.makeSlice 28 (.int .i64 ((m : Int) + 3)) (.int .i64 ((m : Int) + 3))).run Try.prog u = .ok (.slice (some ⟨u.heap.size, 0, none⟩) (m + 3) (m + 3)) (u.alloc (.cells (lits8 (List.replicate (m + 3) 0)).toArray 5)) := makeU8 (m + 3) (m + 3) (Nat.le_refl _) (by omega)
  have HR := Aside0.mk hr
  have hmin : (if (m : Int) + 3 < (m : Int) + 1000 then (m : Int) + 3 else (m : Int) + 1000) = (m : Int) + 3 := if_pos (by omega)
  clear hr
  go_enter Try.func18, Try.ntmps18
  go_wp2
  go_region
  all_goals
    have HA : Aside0 (Row (((w.alloc (.cells (lits8 (List.replicate (m + 3) 0)).toArray 5)).alloc (.cells (lits8 (List.replicate (m + 3) 0)).toArray 5)).drew) w.heap.size (List.replicate (m + 3) 0)) := ⟨(Below.heap_alloc _ _ _ (by rw [Book.alloc_size]; omega)).trans (blk_new w _)⟩
    have HB : Aside0 (Row (((w.alloc (.cells (lits8 (List.replicate (m + 3) 0)).toArray 5)).alloc (.cells (lits8 (List.replicate (m + 3) 0)).toArray 5)).drew) (w.heap.size + 1) (List.replicate (m + 3) 0)) := ⟨Book.two_new _ _ _⟩
    have HW : Aside0 (Below w.heap.size w (((w.alloc (.cells (lits8 (List.replicate (m + 3) 0)).toArray 5)).alloc (.cells (lits8 (List.replicate (m + 3) 0)).toArray 5)).drew)) := ⟨below_drew (below_alloc (below_alloc (Below.refl _ _) _) _)⟩
    generalize ((w.alloc (.cells (lits8 (List.replicate (m + 3) 0)).toArray 5)).alloc (.cells (lits8 (List.replicate (m + 3) 0)).toArray 5)).drew = W at HA HB HW ⊢
    obtain ⟨ga, ea⟩ : ∃ ga, ga = w.heap.size := ⟨_, rfl⟩
    obtain ⟨gb, eb⟩ : ∃ gb, gb = w.heap.size + 1 := ⟨_, rfl⟩
    rw [← eb] at HB ⊢
    rw [← ea] at HA ⊢
    have hab : ga ≠ gb := by omega
    have la := Lib.hid (show w.heap.size ≤ ga by omega)
    have lb := Lib.hid (show w.heap.size ≤ gb by omega)
    clear hmk hmin ea eb
    go_wp2
    go_loopw [6, 21] (fun _ i (wr : World) => ∃ (k : Nat) (zs : List Int), k ≤ m + 3 ∧ i = .int .i64 k ∧ zs.length = m + 3 ∧ Aside0 (Row wr ga zs) ∧ Aside0 (Row wr gb zs) ∧ Aside0 (Below w.heap.size w wr)) (fun _ i _ => m + 3 - (intOf i).toNat)
    case atStart => exact ⟨0, List.replicate (m + 3) 0, by omega, rfl, by simp, HA, HB, HW⟩
    case round =>
      obtain ⟨k, zs, hk, rfl, hz, HA1, HB1, HW1⟩ := hrel
      by_cases hlt : k < m + 3
      · have a1 := HA1.out.cell k (by omega)
        have a2 := HA1.out.frozen k
        have b1 := HB1.out.cell k (by omega)
        have b2 := HB1.out.frozen k
        have b3 : ∀ v, (wr.setCell ⟨ga, k, none⟩ v).cell? ⟨gb, k, none⟩ = some (.int .u8 (zs.getD k 0)) := fun v => by rw [World.cell?_setCell_far _ _ _ _ hab]; exact b1
        have b4 : ∀ v, (wr.setCell ⟨gb, k, none⟩ v).cell? ⟨ga, k, none⟩ = some (.int .u8 (zs.getD k 0)) := fun v => by rw [World.cell?_setCell_far _ _ _ _ (Ne.symm hab)]; exact a1
        go_wp2
        first | refine ⟨⟨k + 1, zs.set k ((200 + (k : Int)) % 256), by omega, by simp, by simpa using hz, ⟨(HA1.out.put k _).far _ hab _⟩, ⟨(HB1.out.far _ (Ne.symm hab) _).put k _⟩, ⟨(HW1.out.setCell (p := ⟨ga, k, none⟩) la.out _).setCell (p := ⟨gb, k, none⟩) lb.out _⟩⟩, ?_⟩ | refine ⟨⟨k + 1, zs.set k ((200 + (k : Int)) % 256), by omega, by simp, by simpa using hz, ⟨(HA1.out.far _ hab _).put k _⟩, ⟨(HB1.out.put k _).far _ (Ne.symm hab) _⟩, ⟨(HW1.out.setCell (p := ⟨gb, k, none⟩) lb.out _).setCell (p := ⟨ga, k, none⟩) la.out _⟩⟩, ?_⟩
        show m + 3 - ((k : Int) + 1).toNat < m + 3 - (k : Int).toNat
        omega
      · obtain rfl : k = m + 3 := by omega
        have hlx := HR.out.1
        by_cases h0 : 0 < m
        · obtain ⟨ad, rfl, _⟩ := HR.out.2.2 h0
          have hn : (lits8 xs).length = Nat.min m (m + 3) := by rw [lits8_length, hlx]; exact (Nat.min_eq_left (by omega)).symm
          have hsrc : ∀ u : World, Below w.heap.size w u → ∀ j v, (lits8 xs)[j]? = some v → u.cell? (ad.add j) = some v := fun u hu => by
            obtain ⟨ad', e, h⟩ := reads_cells (HR.out.below hu) (by rw [lits8_length]; omega)
            obtain rfl := Option.some.inj e
            exact h
          have hfit : 0 + (lits8 xs).length ≤ (lits8 zs).toArray.size := by simp [lits8]; omega
          go_wp2_with (first | (refine wpList_copy_own (o := ⟨some 39, _, _, _, _, _⟩) rfl (.tmp 37) (.tmp 38) 28 28 rfl 5 Try.underlying28 infoU1 ga 0 (m + 3) (m + 3) ad m c rfl rfl (lits8 zs).toArray 5 HA1.out (lits8 xs) hn (hsrc _ HW1.out) hfit (lits8_one xs) ?_) | (refine wpList_copy_own (o := ⟨some 39, _, _, _, _, _⟩) rfl (.tmp 37) (.tmp 38) 28 28 rfl 5 Try.underlying28 infoU1 gb 0 (m + 3) (m + 3) ad m c rfl rfl (lits8 zs).toArray 5 HB1.out (lits8 xs) hn (hsrc _ HW1.out) hfit (lits8_one xs) ?_) | (refine wpList_copy_own (o := ⟨some 42, _, _, _, _, _⟩) rfl (.tmp 40) (.tmp 41) 28 28 rfl 5 Try.underlying28 infoU1 gb 0 (m + 3) (m + 3) ad m c rfl rfl (lits8 zs).toArray 5 ((setRow_other _ _ _ _ (Ne.symm hab)).trans HB1.out) (lits8 xs) hn (hsrc _ (below_setRow HW1.out la.out _)) hfit (lits8_one xs) ?_) | (refine wpList_copy_own (o := ⟨some 42, _, _, _, _, _⟩) rfl (.tmp 40) (.tmp 41) 28 28 rfl 5 Try.underlying28 infoU1 ga 0 (m + 3) (m + 3) ad m c rfl rfl (lits8 zs).toArray 5 ((setRow_other _ _ _ _ hab).trans HA1.out) (lits8 xs) hn (hsrc _ (below_setRow HW1.out lb.out _)) hfit (lits8_one xs) ?_))
          have i1 : (m : Int) ≤ (m : Int) + 3 := by omega
          have i2 : m ≤ m + 3 := by omega
          go_quiet ((fail))
          go_wp2
          go_ret2
          have hzl : (zs.drop xs.length).length = 3 := by rw [List.length_drop, hlx]; omega
          first
            | exact ⟨ga, gb, zs.drop xs.length, rfl, hab, la.out, lb.out, (HA1.out.spliced xs _ (by simp [lits8, hlx])).other hab _, (HB1.out.other (Ne.symm hab) _).spliced xs _ (by simp [lits8, hlx]), hzl, pw_below_drewN (below_setRow (below_setRow HW1.out la.out _) lb.out _) _⟩
            | exact ⟨gb, ga, zs.drop xs.length, rfl, Ne.symm hab, lb.out, la.out, (HB1.out.spliced xs _ (by simp [lits8, hlx])).other (Ne.symm hab) _, (HA1.out.other hab _).spliced xs _ (by simp [lits8, hlx]), hzl, pw_below_drewN (below_setRow (below_setRow HW1.out lb.out _) la.out _) _⟩
        · obtain rfl : m = 0 := by omega
          obtain rfl : xs = [] := List.eq_nil_of_length_eq_zero hlx
          go_wp2_with (first | (refine wpList_copy_nothing (o := ⟨some 39, _, _, _, _, _⟩) rfl (.tmp 37) (.tmp 38) 28 28 rfl 5 Try.underlying28 infoU1 (some ⟨ga, 0, none⟩) A 3 3 0 c rfl rfl rfl ?_) | (refine wpList_copy_nothing (o := ⟨some 39, _, _, _, _, _⟩) rfl (.tmp 37) (.tmp 38) 28 28 rfl 5 Try.underlying28 infoU1 (some ⟨gb, 0, none⟩) A 3 3 0 c rfl rfl rfl ?_) | (refine wpList_copy_nothing (o := ⟨some 42, _, _, _, _, _⟩) rfl (.tmp 40) (.tmp 41) 28 28 rfl 5 Try.underlying28 infoU1 (some ⟨gb, 0, none⟩) A 3 3 0 c rfl rfl rfl ?_) | (refine wpList_copy_nothing (o := ⟨some 42, _, _, _, _, _⟩) rfl (.tmp 40) (.tmp 41) 28 28 rfl 5 Try.underlying28 infoU1 (some ⟨ga, 0, none⟩) A 3 3 0 c rfl rfl rfl ?_))
          go_quiet ((fail))
          go_wp2
          go_ret2
          first
            | exact ⟨ga, gb, zs, rfl, hab, la.out, lb.out, HA1.out, HB1.out, by omega, pw_below_drewN HW1.out _⟩
            | exact ⟨gb, ga, zs, rfl, Ne.symm hab, lb.out, la.out, HB1.out, HA1.out, by omega, pw_below_drewN HW1.out _⟩
end Go.Proofs.Ytancgipidbojkaa.Twin
