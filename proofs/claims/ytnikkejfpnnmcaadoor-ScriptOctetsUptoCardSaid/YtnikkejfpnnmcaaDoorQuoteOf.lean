/- cornref1.QuoteOf: what it writes, for at most 2000000 octets. -/
import Derived.Test.YtnikkejfpnnmcaaDoorOctets
import Derived.Deep.RegionHeld3
namespace Go.Proofs.YtnikkejfpnnmcaaDoor.Quo
open Go.RowKit Go.Proofs.YtnikkejfpnnmcaaDoorW.PrintWords Go.Proofs.YtnikkejfpnnmcaaDoorW.PrintLast Go.Proofs.YtnikkejfpnnmcaaDoorW.PrintMore Go.Proofs.YtnikkejfpnnmcaaDoor.Bld

theorem hexAtI (w : World) (n : Nat) (h : n < 16) : (Instr.index 9 (.string { data := #[48, 49, 50, 51, 52, 53, 54, 55, 56, 57, 97, 98, 99, 100, 101, 102] }) (.int .u8 (n : Int))).run Tryd.prog w = .ok (.int .u8 ((hexd n).toNat : Int)) w := by
  rw [hexIndex w n (by omega) (by omega), Int.toNat_natCast]
theorem lowFin : ∀ i : Fin 256, bits .and .u8 (i.val : Int) 15 = ((i.val % 16 : Nat) : Int) := by decide +kernel
theorem lowNib (c : UInt8) : bits .and .u8 (c.toNat : Int) 15 = ((c.toNat % 16 : Nat) : Int) := lowFin ⟨c.toNat, UInt8.toNat_lt c⟩
theorem hexConvFin : ∀ i : Fin 16, Utf8.encode ((hexd i.val).toNat : Int) = ⟨#[hexd i.val]⟩ := by decide +kernel
theorem hexConv (w : World) (i : Nat) (h : i < 16) : (convert 5 9 (.int .u8 ((hexd i).toNat : Int))).run Tryd.prog w = .ok (.string ⟨#[hexd i]⟩) w := by
  simp only [run_convert_int_string w 5 9 .u8 _ (by rw [Tryd.underlying5]; rfl) Tryd.underlying9]
  rw [hexConvFin ⟨i, h⟩]
theorem add2 (w : World) (x : UInt8) : (binOp .add 9 (.string { data := #[92, 120] }) (.string ⟨#[x]⟩)).run Tryd.prog w = .ok (.string ⟨#[92, 120, x]⟩) w := by
  simp [go_sem, ByteArray.size]
  rfl
theorem add3 (w : World) (x y : UInt8) : (binOp .add 9 (.string ⟨#[92, 120, x]⟩) (.string ⟨#[y]⟩)).run Tryd.prog w = .ok (.string ⟨#[92, 120, x, y]⟩) w := by
  simp [go_sem, ByteArray.size]
  rfl

set_option maxHeartbeats 4000000 in
set_option maxRecDepth 100000 in
theorem quoteOf (A : Option Addr) (n c : Nat) (bs : List UInt8) (w : World) (hr : ReadsInt w .u8 A n (ints bs)) (hn : n ≤ 2000000) :
    Calls Tryd.prog 18 #[.slice A n c] w fun e w' => e = .returned (.string ⟨(quotes bs).toArray⟩) ∧ Below w.heap.size w w' := by
  have hlen : bs.length = n := by rw [← hr.1, ints_length]
  have HL := Lib.hid hlen
  have HR := Aside0.mk hr
  have HB0 := Aside0.mk (newBuilder w)
  have HW0 := Aside0.mk (show Below w.heap.size w (w.alloc (.cells #[.pointer none, .slice none 0 0] 58)) from below_alloc (Below.refl _ _) _)
  have hhex := hexIndex
  clear hlen hr
  go_enter Tryd.func18, Tryd.ntmps18
  go_wp2_with fail
  refine (writeByte w.heap.size w.heap.size [] 34 _ HB0.out (by decide) HW0.out.size).mono ?_
  rintro e w1 ⟨rfl, hB, hb⟩
  have HB1 := Aside0.mk hB
  have HW1 := Aside0.mk (HW0.out.trans hb)
  clear hB hb
  go_wp2_with fail
  go_loopw [5, 9] (fun _ i wr => ∃ k : Nat, k ≤ n ∧ i = .int .i64 k ∧ Aside0 (Lib.BuilderAt 58 5 w.heap.size w.heap.size (.pointer (some ⟨w.heap.size, 0, none⟩)) (Lib.byteCells (34 :: (bs.take k).flatMap quo)) wr) ∧ Aside0 (Below w.heap.size w wr)) (fun _ i _ => n - (intOf i).toNat)
  case atStart => exact ⟨0, Nat.zero_le _, rfl, HB1, HW1⟩
  case round =>
    obtain ⟨k, hk, rfl, HB, HW⟩ := hrel
    have hb4 : (Lib.byteCells (34 :: (bs.take k).flatMap quo)).length ≤ 8000001 := by
      have := quos_len (bs.take k)
      have h2 : (bs.take k).length ≤ k := List.length_take_le _ _
      simp [Lib.byteCells] at *
      omega
    by_cases hlt : k < n
    · have hkb : k < bs.length := by rw [HL.out]; exact hlt
      obtain ⟨ad, rfl, hc⟩ := (HR.out.below HW.out).at_ k (by omega) (by omega)
      rw [Int.toNat_natCast, rd_ints bs k hkb] at hc
      have hq := quos_snoc bs k hkb
      have hc256 : (bs[k].toNat : Int) < 256 := by have := UInt8.toNat_lt bs[k]; omega
      have hc0 : (0 : Int) ≤ (bs[k].toNat : Int) := by omega
      generalize bs[k] = c at *
      have HQ := Lib.hid hq
      clear hq
      by_cases h1 : c = 34 ∨ c = 92
      · have h1b : ((c.toNat : Int) == 34) = true ∨ (((c.toNat : Int) == 34) = false ∧ ((c.toNat : Int) == 92) = true) := by
          rcases h1 with rfl | rfl
          · exact .inl rfl
          · exact .inr ⟨rfl, rfl⟩
        have hend : Lib.byteCells (34 :: ((bs.take k).flatMap quo ++ quo c)) = Lib.byteCells (34 :: (bs.take k).flatMap quo) ++ [.int .u8 92] ++ [.int .u8 (c.toNat : Int)] := by rw [← List.cons_append, byteCells_append]; unfold quo; rw [if_pos h1]; simp [Lib.byteCells]
        have HE := Lib.hid hend
        clear hend
        clear h1
        rcases h1b with e34 | ⟨e34, e92⟩
        · go_wp2_with fail
          refine (writeByte w.heap.size w.heap.size _ 92 _ (.inr HB.out) (by omega) HW.out.size).mono ?_
          rintro e w2 ⟨rfl, hB, hb⟩
          have HB2 := Aside0.mk hB
          have HW2 := Aside0.mk (HW.out.trans hb)
          clear hB hb
          go_wp2_with fail
          refine (writeByte w.heap.size w.heap.size _ _ _ (.inr HB2.out) (by simp only [List.length_append, List.length_cons, List.length_nil]; omega) HW2.out.size).mono ?_
          rintro e w3 ⟨rfl, hB, hb⟩
          have HB3 := Aside0.mk hB
          have HW3 := Aside0.mk (HW2.out.trans hb)
          clear hB hb
          go_wp2
          go_roundw
          case rel => exact ⟨k + 1, by omega, by go_num, ⟨by rw [HQ.out, HE.out]; exact HB3.out⟩, HW3⟩
          case measure => simp [intOf]; omega
        · go_wp2_with fail
          refine (writeByte w.heap.size w.heap.size _ 92 _ (.inr HB.out) (by omega) HW.out.size).mono ?_
          rintro e w2 ⟨rfl, hB, hb⟩
          have HB2 := Aside0.mk hB
          have HW2 := Aside0.mk (HW.out.trans hb)
          clear hB hb
          go_wp2_with fail
          refine (writeByte w.heap.size w.heap.size _ _ _ (.inr HB2.out) (by simp only [List.length_append, List.length_cons, List.length_nil]; omega) HW2.out.size).mono ?_
          rintro e w3 ⟨rfl, hB, hb⟩
          have HB3 := Aside0.mk hB
          have HW3 := Aside0.mk (HW2.out.trans hb)
          clear hB hb
          go_wp2
          go_roundw
          case rel => exact ⟨k + 1, by omega, by go_num, ⟨by rw [HQ.out, HE.out]; exact HB3.out⟩, HW3⟩
          case measure => simp [intOf]; omega
      · have e34 : ((c.toNat : Int) == 34) = false := by
          rw [beq_eq_false_iff_ne]; intro e; exact h1 (.inl (UInt8.toNat_inj.1 (by have : (34 : UInt8).toNat = 34 := rfl; omega)))
        have e92 : ((c.toNat : Int) == 92) = false := by
          rw [beq_eq_false_iff_ne]; intro e; exact h1 (.inr (UInt8.toNat_inj.1 (by have : (92 : UInt8).toNat = 92 := rfl; omega)))
        by_cases h2 : 32 ≤ c.toNat ∧ c.toNat ≤ 126
        · have hend : Lib.byteCells (34 :: ((bs.take k).flatMap quo ++ quo c)) = Lib.byteCells (34 :: (bs.take k).flatMap quo) ++ [.int .u8 (c.toNat : Int)] := by rw [← List.cons_append, byteCells_append]; unfold quo; rw [if_neg h1, if_pos h2]; simp [Lib.byteCells]
          have HE := Lib.hid hend
          clear hend h1
          have g1 : (32 : Int) ≤ (c.toNat : Int) := by omega
          have g2 : (c.toNat : Int) ≤ 126 := by omega
          go_wp2_with fail
          refine (writeByte w.heap.size w.heap.size _ _ _ (.inr HB.out) (by omega) HW.out.size).mono ?_
          rintro e w2 ⟨rfl, hB, hb⟩
          have HB2 := Aside0.mk hB
          have HW2 := Aside0.mk (HW.out.trans hb)
          clear hB hb
          go_wp2
          go_roundw
          case rel => exact ⟨k + 1, by omega, by go_num, ⟨by rw [HQ.out, HE.out]; exact HB2.out⟩, HW2⟩
          case measure => simp [intOf]; omega
        · have hend : Lib.byteCells (34 :: ((bs.take k).flatMap quo ++ quo c)) = Lib.byteCells (34 :: (bs.take k).flatMap quo) ++ Lib.strCells ⟨#[92, 120, hexd (c.toNat / 16), hexd (c.toNat % 16)]⟩ := by rw [← List.cons_append, byteCells_append]; unfold quo; rw [if_neg h1, if_neg h2]; simp [Lib.byteCells, Lib.strCells]
          have hi1 := fun w => hexAtI w (c.toNat / 16) (by omega)
          have hi2 := fun w => hexAtI w (c.toNat % 16) (by omega)
          have hc1 := fun w => hexConv w (c.toNat / 16) (by omega)
          have hc2 := fun w => hexConv w (c.toNat % 16) (by omega)
          have hdiv : (c.toNat : Int) / 16 = ((c.toNat / 16 : Nat) : Int) := rfl
          have hlow := lowNib c
          generalize c.toNat / 16 = q at hi1 hc1 hdiv hend
          generalize c.toNat % 16 = r at hi2 hc2 hlow hend
          generalize hexd q = x1 at hi1 hc1 hend
          generalize hexd r = x2 at hi2 hc2 hend
          have ha1 := fun w => add2 w x1
          have ha2 := fun w => add3 w x1 x2
          have hs4 : ({ data := #[92, 120, x1, x2] } : ByteArray).size = 4 := rfl
          have hcat : ({ data := #[92, 120] } ++ { data := #[x1] } ++ { data := #[x2] } : ByteArray) = { data := #[92, 120, x1, x2] } := rfl
          have HS4 := Lib.hid hs4
          have HCAT := Lib.hid hcat
          have HE := Lib.hid hend
          clear hend h1 hs4 hhex hcat
          have hp : c.toNat < 32 ∨ 126 < c.toNat := by omega
          rcases hp with hp | hp
          · have hp' : (c.toNat : Int) < 32 := by omega
            go_wp2_with fail
            go_region_held3 (fun _ => True) (trivial) ((go_at_call 31; refine (writeString w.heap.size w.heap.size _ _ _ (.inr HB.out.drew) (by rw [HCAT.out, HS4.out]; omega) HW.out.drew.size).mono ?_; rintro e w2 ⟨rfl, hB, hb⟩; rw [HCAT.out] at hB; have HB2 := Aside0.mk hB; have HW2 := Aside0.mk (HW.out.drew.trans hb); clear hB hb))
            all_goals (go_wp2; go_roundw)
            all_goals (first | exact ⟨k + 1, by omega, by go_num, ⟨by rw [HQ.out, HE.out]; exact HB2.out⟩, HW2⟩ | (simp [intOf]; omega))
          · have hp' : (126 : Int) < (c.toNat : Int) := by omega
            have hp2 : (32 : Int) ≤ (c.toNat : Int) := by omega
            go_wp2_with fail
            go_region_held3 (fun _ => True) (trivial) ((go_at_call 31; refine (writeString w.heap.size w.heap.size _ _ _ (.inr HB.out.drew) (by rw [HCAT.out, HS4.out]; omega) HW.out.drew.size).mono ?_; rintro e w2 ⟨rfl, hB, hb⟩; rw [HCAT.out] at hB; have HB2 := Aside0.mk hB; have HW2 := Aside0.mk (HW.out.drew.trans hb); clear hB hb))
            all_goals (go_wp2; go_roundw)
            all_goals (first | exact ⟨k + 1, by omega, by go_num, ⟨by rw [HQ.out, HE.out]; exact HB2.out⟩, HW2⟩ | (simp [intOf]; omega))
    · have hk2 : n ≤ k := by omega
      have htk : bs.take k = bs := List.take_of_length_le (by rw [HL.out]; exact hk2)
      rw [htk] at HB hb4
      clear htk
      go_wp2_with fail
      refine (Tryd.Builder_String_any w.heap.size w.heap.size (34 :: bs.flatMap quo) _ (.inr HB.out) HW.out.size).mono ?_
      rintro e w3 ⟨rfl, hb⟩
      have hcat : (⟨(34 :: bs.flatMap quo).toArray⟩ ++ ⟨#[34]⟩ : ByteArray) = ⟨(quotes bs).toArray⟩ := by
        apply ByteArray.ext; simp [quotes]
      have hz : (⟨(34 :: bs.flatMap quo).toArray⟩ : ByteArray).size ≤ 8000001 := by
        rw [← ByteArray.size_data]; simpa [Lib.byteCells] using hb4
      generalize (⟨(34 :: bs.flatMap quo).toArray⟩ : ByteArray) = Z at hcat hz ⊢
      have HCAT := Lib.hid hcat
      have hz1 : ¬ (9223372036854775807 < Z.size + 1) := by omega
      clear hcat
      go_wp2_with fail
      go_ret
      exact ⟨by show Ending.returned (.string (Z ++ ⟨#[34]⟩)) = _; rw [HCAT.out], HW.out.trans hb⟩
end Go.Proofs.YtnikkejfpnnmcaaDoor.Quo
