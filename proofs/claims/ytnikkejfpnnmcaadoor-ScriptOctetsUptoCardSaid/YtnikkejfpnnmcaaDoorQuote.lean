/- script.Quote: what it writes, for at most 2000000 octets. -/
import Derived.Test.YtnikkejfpnnmcaaDoorBuilder
import Derived.Test.YtnikkejfpnnmcaaDoorShelfB
import Derived.Test.YtnikkejfpnnmcaaDoorWWords
import Derived.Test.YtnikkejfpnnmcaaDoorWLast
import Derived.Test.YtnikkejfpnnmcaaDoorWMore
import Derived.Lib.Hide
import Derived.WalkSpells
namespace Go.Proofs.YtnikkejfpnnmcaaDoor.Quo
open Go.RowKit Go.Proofs.YtnikkejfpnnmcaaDoorW.PrintWords Go.Proofs.YtnikkejfpnnmcaaDoorW.PrintLast Go.Proofs.YtnikkejfpnnmcaaDoorW.PrintMore Go.Proofs.YtnikkejfpnnmcaaDoor.Bld

/-- A hexadecimal digit. -/
def hexd (n : Nat) : UInt8 := if n < 10 then (48 + n).toUInt8 else (87 + n).toUInt8
/-- An octet as Quote writes it. -/
def quo (c : UInt8) : List UInt8 := if c = 34 ∨ c = 92 then [92, c] else if 32 ≤ c.toNat ∧ c.toNat ≤ 126 then [c] else [92, 120, hexd (c.toNat / 16), hexd (c.toNat % 16)]
/-- Octets as Quote writes them. -/
def quotes (bs : List UInt8) : List UInt8 := 34 :: (bs.flatMap quo ++ [34])

def ints (bs : List UInt8) : List Int := bs.map fun c => (c.toNat : Int)
theorem ints_length (bs : List UInt8) : (ints bs).length = bs.length := by simp [ints]
theorem rd_ints (bs : List UInt8) (k : Nat) (h : k < bs.length) : rd (ints bs) k = (bs[k].toNat : Int) := by
  simp [rd, ints, List.getD_eq_getElem?_getD, h]
theorem quo_len (c : UInt8) : (quo c).length ≤ 4 := by
  unfold quo
  split
  · simp
  · split <;> simp
theorem quos_len (bs : List UInt8) : (bs.flatMap quo).length ≤ 4 * bs.length := by
  induction bs with
  | nil => simp
  | cons c cs ih =>
    have := quo_len c
    simp only [List.flatMap_cons, List.length_append, List.length_cons]
    omega
theorem quos_snoc (bs : List UInt8) (k : Nat) (h : k < bs.length) : (bs.take (k + 1)).flatMap quo = (bs.take k).flatMap quo ++ quo bs[k] := by
  rw [List.take_succ_eq_append_getElem h, List.flatMap_append]; simp [List.flatMap_cons]

theorem hexAtFin : ∀ i : Fin 16, ({ data := #[48, 49, 50, 51, 52, 53, 54, 55, 56, 57, 97, 98, 99, 100, 101, 102] } : ByteArray)[i.val]'i.isLt = hexd i.val := by decide
theorem hexAt (i : Nat) (h : i < 16) : ({ data := #[48, 49, 50, 51, 52, 53, 54, 55, 56, 57, 97, 98, 99, 100, 101, 102] } : ByteArray)[i]'h = hexd i := hexAtFin ⟨i, h⟩

theorem hexIndex (w : World) (i : Int) (h0 : 0 ≤ i) (h1 : i < 16) :
    (Instr.index 9 (.string { data := #[48, 49, 50, 51, 52, 53, 54, 55, 56, 57, 97, 98, 99, 100, 101, 102] }) (.int .u8 i)).run Tryd.prog w = .ok (.int .u8 ((hexd i.toNat).toNat : Int)) w := by
  rw [run_index_string w _ _ _ _ Tryd.underlying9, dif_pos ⟨h0, h1⟩, hexAt i.toNat (by omega)]

theorem byteCells_append (a b : List UInt8) : Lib.byteCells (a ++ b) = Lib.byteCells a ++ Lib.byteCells b := by simp [Lib.byteCells]
theorem byteCells_one (c : UInt8) : Lib.byteCells [c] = [.int .u8 (c.toNat : Int)] := by simp [Lib.byteCells]

theorem newBuilder (w : World) : Lib.IsBuilder 58 5 w.heap.size w.heap.size [] (w.alloc (.cells #[.pointer none, .slice none 0 0] 58)) :=
  .inl ⟨Nat.le_refl _, .slice none 0 0, blk_new w _, own_nil _ _ _ _, by simp [Value.ownBlock]⟩

set_option maxHeartbeats 4000000 in
set_option maxRecDepth 100000 in
theorem quote (A : Option Addr) (n c : Nat) (bs : List UInt8) (w : World) (hr : ReadsInt w .u8 A n (ints bs)) (hn : n ≤ 2000000) :
    Calls Tryd.prog 17 #[.slice A n c] w fun e w' => e = .returned (.string ⟨(quotes bs).toArray⟩) ∧ Below w.heap.size w w' := by
  have hlen : bs.length = n := by rw [← hr.1, ints_length]
  have HL := Lib.hid hlen
  have HR := Aside0.mk hr
  have HB0 := Aside0.mk (newBuilder w)
  have HW0 := Aside0.mk (show Below w.heap.size w (w.alloc (.cells #[.pointer none, .slice none 0 0] 58)) from below_alloc (Below.refl _ _) _)
  have hhex := hexIndex
  clear hlen hr
  go_enter Tryd.func17, Tryd.ntmps17
  go_wp2_with fail
  refine (writeByte w.heap.size w.heap.size [] 34 _ HB0.out (by decide) HW0.out.size).mono ?_
  rintro e w1 ⟨rfl, hB, hb⟩
  have HB1 := Aside0.mk hB
  have HW1 := Aside0.mk (HW0.out.trans hb)
  clear hB hb
  go_wp2_with fail
  go_loopw [5, 9] (fun _ i wr => ∃ k : Nat, k ≤ n ∧ i = .int .i64 k ∧ Aside0 (Lib.BuilderAt 58 5 w.heap.size w.heap.size (.pointer (some ⟨w.heap.size, 0, none⟩)) (Lib.byteCells (34 :: (bs.take k).flatMap quo)) wr) ∧ Aside0 (Below w.heap.size w wr)) (fun _ i _ => n - (intOf i).toNat)
  case atStart => exact ⟨0, Nat.zero_le _, rfl, HB1, HW1⟩
  case round =>
    obtain ⟨k, hk, rfl, HB, HW⟩ := hrel
    have hb4 : (Lib.byteCells (34 :: (bs.take k).flatMap quo)).length ≤ 8000001 := by
      have := quos_len (bs.take k)
      have h2 : (bs.take k).length ≤ k := List.length_take_le _ _
      simp [Lib.byteCells] at *
      omega
    by_cases hlt : k < n
    · have hkb : k < bs.length := by rw [HL.out]; exact hlt
      obtain ⟨ad, rfl, hc⟩ := (HR.out.below HW.out).at_ k (by omega) (by omega)
      rw [Int.toNat_natCast, rd_ints bs k hkb] at hc
      have hq := quos_snoc bs k hkb
      have hc256 : (bs[k].toNat : Int) < 256 := by have := UInt8.toNat_lt bs[k]; omega
      have hc0 : (0 : Int) ≤ (bs[k].toNat : Int) := by omega
      generalize bs[k] = c at *
      have HQ := Lib.hid hq
      clear hq
      by_cases h1 : c = 34 ∨ c = 92
      · have h1b : ((c.toNat : Int) == 34) = true ∨ (((c.toNat : Int) == 34) = false ∧ ((c.toNat : Int) == 92) = true) := by
          rcases h1 with rfl | rfl
          · exact .inl rfl
          · exact .inr ⟨rfl, rfl⟩
        have hend : Lib.byteCells (34 :: ((bs.take k).flatMap quo ++ quo c)) = Lib.byteCells (34 :: (bs.take k).flatMap quo) ++ [.int .u8 92] ++ [.int .u8 (c.toNat : Int)] := by rw [← List.cons_append, byteCells_append]; unfold quo; rw [if_pos h1]; simp [Lib.byteCells]
        have HE := Lib.hid hend
        clear hend
        clear h1
        rcases h1b with e34 | ⟨e34, e92⟩
        · go_wp2_with fail
          refine (writeByte w.heap.size w.heap.size _ 92 _ (.inr HB.out) (by omega) HW.out.size).mono ?_
          rintro e w2 ⟨rfl, hB, hb⟩
          have HB2 := Aside0.mk hB
          have HW2 := Aside0.mk (HW.out.trans hb)
          clear hB hb
          go_wp2_with fail
          refine (writeByte w.heap.size w.heap.size _ _ _ (.inr HB2.out) (by simp only [List.length_append, List.length_cons, List.length_nil]; omega) HW2.out.size).mono ?_
          rintro e w3 ⟨rfl, hB, hb⟩
          have HB3 := Aside0.mk hB
          have HW3 := Aside0.mk (HW2.out.trans hb)
          clear hB hb
          go_wp2
          go_roundw
          case rel => exact ⟨k + 1, by omega, by go_num, ⟨by rw [HQ.out, HE.out]; exact HB3.out⟩, HW3⟩
          case measure => simp [intOf]; omega
        · go_wp2_with fail
          refine (writeByte w.heap.size w.heap.size _ 92 _ (.inr HB.out) (by omega) HW.out.size).mono ?_
          rintro e w2 ⟨rfl, hB, hb⟩
          have HB2 := Aside0.mk hB
          have HW2 := Aside0.mk (HW.out.trans hb)
          clear hB hb
          go_wp2_with fail
          refine (writeByte w.heap.size w.heap.size _ _ _ (.inr HB2.out) (by simp only [List.length_append, List.length_cons, List.length_nil]; omega) HW2.out.size).mono ?_
          rintro e w3 ⟨rfl, hB, hb⟩
          have HB3 := Aside0.mk hB
          have HW3 := Aside0.mk (HW2.out.trans hb)
          clear hB hb
          go_wp2
          go_roundw
          case rel => exact ⟨k + 1, by omega, by go_num, ⟨by rw [HQ.out, HE.out]; exact HB3.out⟩, HW3⟩
          case measure => simp [intOf]; omega
      · have e34 : ((c.toNat : Int) == 34) = false := by
          rw [beq_eq_false_iff_ne]; intro e; exact h1 (.inl (UInt8.toNat_inj.1 (by have : (34 : UInt8).toNat = 34 := rfl; omega)))
        have e92 : ((c.toNat : Int) == 92) = false := by
          rw [beq_eq_false_iff_ne]; intro e; exact h1 (.inr (UInt8.toNat_inj.1 (by have : (92 : UInt8).toNat = 92 := rfl; omega)))
        by_cases h2 : 32 ≤ c.toNat ∧ c.toNat ≤ 126
        · have hend : Lib.byteCells (34 :: ((bs.take k).flatMap quo ++ quo c)) = Lib.byteCells (34 :: (bs.take k).flatMap quo) ++ [.int .u8 (c.toNat : Int)] := by rw [← List.cons_append, byteCells_append]; unfold quo; rw [if_neg h1, if_pos h2]; simp [Lib.byteCells]
          have HE := Lib.hid hend
          clear hend h1
          have g1 : (32 : Int) ≤ (c.toNat : Int) := by omega
          have g2 : (c.toNat : Int) ≤ 126 := by omega
          go_wp2_with fail
          refine (writeByte w.heap.size w.heap.size _ _ _ (.inr HB.out) (by omega) HW.out.size).mono ?_
          rintro e w2 ⟨rfl, hB, hb⟩
          have HB2 := Aside0.mk hB
          have HW2 := Aside0.mk (HW.out.trans hb)
          clear hB hb
          go_wp2
          go_roundw
          case rel => exact ⟨k + 1, by omega, by go_num, ⟨by rw [HQ.out, HE.out]; exact HB2.out⟩, HW2⟩
          case measure => simp [intOf]; omega
        · have hend : Lib.byteCells (34 :: ((bs.take k).flatMap quo ++ quo c)) = Lib.byteCells (34 :: (bs.take k).flatMap quo) ++ Lib.strCells { data := #[92, 120] } ++ [.int .u8 (hexd (c.toNat / 16)).toNat] ++ [.int .u8 (hexd (c.toNat % 16)).toNat] := by rw [← List.cons_append, byteCells_append]; unfold quo; rw [if_neg h1, if_neg h2]; simp [Lib.byteCells, Lib.strCells]
          have HE := Lib.hid hend
          clear hend h1
          have hs2 : (Lib.strCells { data := #[92, 120] }).length = 2 := rfl
          have hs2' : ({ data := #[92, 120] } : ByteArray).size = 2 := rfl
          have hx1 := hexAt (c.toNat / 16) (by omega)
          have hx2 := hexAt (c.toNat % 16) (by omega)
          have HX1 := Lib.hid hx1
          have HX2 := Lib.hid hx2
          have HS2 := Lib.hid hs2
          have HS2' := Lib.hid hs2'
          clear hx1 hx2 hs2 hs2'
          have hp : c.toNat < 32 ∨ 126 < c.toNat := by omega
          rcases hp with hp | hp
          · have hp' : (c.toNat : Int) < 32 := by omega
            go_wp2_with fail
            refine (writeString w.heap.size w.heap.size _ _ _ (.inr HB.out) (by rw [HS2'.out]; omega) HW.out.size).mono ?_
            rintro e w2 ⟨rfl, hB, hb⟩
            have HB2 := Aside0.mk hB
            have HW2 := Aside0.mk (HW.out.trans hb)
            clear hB hb
            go_wp2_with fail
            rw [HX1.out]
            refine (writeByte w.heap.size w.heap.size _ _ _ (.inr HB2.out) (by simp only [List.length_append, HS2.out]; omega) HW2.out.size).mono ?_
            rintro e w3 ⟨rfl, hB, hb⟩
            have HB3 := Aside0.mk hB
            have HW3 := Aside0.mk (HW2.out.trans hb)
            clear hB hb
            go_wp2_with fail
            rw [HX2.out]
            refine (writeByte w.heap.size w.heap.size _ _ _ (.inr HB3.out) (by simp only [List.length_append, HS2.out, List.length_cons, List.length_nil]; omega) HW3.out.size).mono ?_
            rintro e w4 ⟨rfl, hB, hb⟩
            have HB4 := Aside0.mk hB
            have HW4 := Aside0.mk (HW3.out.trans hb)
            clear hB hb
            go_wp2
            go_roundw
            case rel => exact ⟨k + 1, by omega, by go_num, ⟨by rw [HQ.out, HE.out]; exact HB4.out⟩, HW4⟩
            case measure => simp [intOf]; omega
          · have hp' : (126 : Int) < (c.toNat : Int) := by omega
            have hp2 : (32 : Int) ≤ (c.toNat : Int) := by omega
            go_wp2_with fail
            refine (writeString w.heap.size w.heap.size _ _ _ (.inr HB.out) (by rw [HS2'.out]; omega) HW.out.size).mono ?_
            rintro e w2 ⟨rfl, hB, hb⟩
            have HB2 := Aside0.mk hB
            have HW2 := Aside0.mk (HW.out.trans hb)
            clear hB hb
            go_wp2_with fail
            rw [HX1.out]
            refine (writeByte w.heap.size w.heap.size _ _ _ (.inr HB2.out) (by simp only [List.length_append, HS2.out]; omega) HW2.out.size).mono ?_
            rintro e w3 ⟨rfl, hB, hb⟩
            have HB3 := Aside0.mk hB
            have HW3 := Aside0.mk (HW2.out.trans hb)
            clear hB hb
            go_wp2_with fail
            rw [HX2.out]
            refine (writeByte w.heap.size w.heap.size _ _ _ (.inr HB3.out) (by simp only [List.length_append, HS2.out, List.length_cons, List.length_nil]; omega) HW3.out.size).mono ?_
            rintro e w4 ⟨rfl, hB, hb⟩
            have HB4 := Aside0.mk hB
            have HW4 := Aside0.mk (HW3.out.trans hb)
            clear hB hb
            go_wp2
            go_roundw
            case rel => exact ⟨k + 1, by omega, by go_num, ⟨by rw [HQ.out, HE.out]; exact HB4.out⟩, HW4⟩
            case measure => simp [intOf]; omega
    · have hk2 : n ≤ k := by omega
      have htk : bs.take k = bs := List.take_of_length_le (by rw [HL.out]; exact hk2)
      rw [htk] at HB hb4
      clear htk
      go_wp2_with fail
      refine (writeByte w.heap.size w.heap.size _ 34 _ (.inr HB.out) (by omega) HW.out.size).mono ?_
      rintro e w2 ⟨rfl, hB, hb⟩
      have HB2 := Aside0.mk hB
      have HW2 := Aside0.mk (HW.out.trans hb)
      clear hB hb
      have hfin : Lib.byteCells (34 :: bs.flatMap quo) ++ [.int .u8 34] = Lib.byteCells (quotes bs) := by unfold quotes; simp [Lib.byteCells]
      have HB3 := Aside0.mk (hfin ▸ HB2.out)
      clear hfin
      go_wp2_with fail
      refine (Tryd.Builder_String_any w.heap.size w.heap.size (quotes bs) _ (.inr HB3.out) HW2.out.size).mono ?_
      rintro e w3 ⟨rfl, hb⟩
      go_wp2
      go_ret
      exact ⟨rfl, HW2.out.trans hb⟩
end Go.Proofs.YtnikkejfpnnmcaaDoor.Quo
