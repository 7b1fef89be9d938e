/- strconv.ParseUint(s, 16, 8) of two octets. -/
import Derived.Test.YtnikkejfpnnmcaaDoorQuoteOf
import Derived.Lib.AtoiAllMem
import Derived.Laws.Strings3
import Derived.Laws.Closers25
import Derived.Laws.Closers25b
import Derived.BigCall
import Derived.BigGuard
namespace Go.Proofs.YtnikkejfpnnmcaaDoor.Quo
set_option linter.unusedVariables false
set_option linter.unusedSimpArgs false
open Go.RowKit Go.Proofs.YtnikkejfpnnmcaaDoorW.PrintWords Go.Proofs.YtnikkejfpnnmcaaDoorW.PrintLast Go.Proofs.YtnikkejfpnnmcaaDoorW.PrintMore Go.Proofs.YtnikkejfpnnmcaaDoor.Bld

/-- The value of a hexadecimal digit. -/
def hexV (c : UInt8) : Int := if 48 ≤ c.toNat ∧ c.toNat ≤ 57 then (c.toNat : Int) - 48 else bits .or .u8 (c.toNat : Int) 32 - 87
def hexOk (c : UInt8) : Bool := decide (48 ≤ c.toNat ∧ c.toNat ≤ 57) || decide (97 ≤ bits .or .u8 (c.toNat : Int) 32 ∧ bits .or .u8 (c.toNat : Int) 32 ≤ 102)
def hexRun : List UInt8 → Int → Option Int
  | [], a => some a
  | c :: l, a => if hexOk c then hexRun l (a * 16 + hexV c) else none
theorem hexVFin : ∀ i : Fin 16, hexOk (hexd i.val) = true ∧ hexV (hexd i.val) = (i.val : Int) := by decide +kernel
theorem hexRun_two (q r : Nat) (hq : q < 16) (hr : r < 16) : hexRun [hexd q, hexd r] 0 = some ((q * 16 + r : Nat) : Int) := by
  have h1 := hexVFin ⟨q, hq⟩
  have h2 := hexVFin ⟨r, hr⟩
  simp only [hexRun, h1.1, h1.2, h2.1, h2.2, if_true]
  congr 1
  simp
def hexEnd : Option Int → Value
  | some v => .tuple #[.int .u64 v, .nilIface]
  | none => .tuple #[.int .u64 0, .iface 118 (.int .i64 2)]

set_option maxHeartbeats 32000000 in
set_option maxRecDepth 100000 in
theorem parseHexIn (t : ByteArray) (hne : t.size = 2) (w : World) :
    Calls Tryd.prog 63 #[.string t, .int .i64 16, .int .i64 8] w fun e w' => e = .returned (hexEnd (hexRun t.data.toList 0)) ∧ w' = Lib.bytesWorld w 5 t := by
  have hemp : t.toList.isEmpty = false := by
    rw [← decide_eq_emptyBytes]
    exact decide_eq_false (fun h => absurd hne (by rw [h]; decide))
  have hcv := Lib.run_convert_string_bytes (P := Tryd.prog) w 9 33 5 t (u := .string) Tryd.underlying9 Tryd.underlying33 Tryd.underlying5
  have hB : ∀ j, j < t.size → (Lib.bytesWorld w 5 t).cell? ⟨w.heap.size, j, none⟩ = some (.int .u8 (t.data.toList.getD j 0).toNat) := fun j hj => Lib.bytesWorld_cell w 5 t j hj
  obtain ⟨W1, hW1⟩ : ∃ W1, W1 = Lib.bytesWorld w 5 t := ⟨_, rfl⟩
  rw [← hW1] at hcv hB ⊢
  clear hW1
  obtain ⟨bs, hL⟩ : ∃ bs, bs = t.data.toList := ⟨_, rfl⟩
  have hLn : bs.length = t.size := by rw [hL, Lib.size_eq]
  rw [← hL] at hB ⊢
  clear hL
  have hmv : IntKind.u64.wrap (IntKind.u64.wrap 256 - 1) = 255 := by
    rw [IntKind.wrap_u64, IntKind.wrap_u64]
    decide
  go_enter Tryd.func63, Tryd.ntmps63
  go_wp2
  go_loop [12, 13, 101] (fun vu vn vi => ∃ (k : Nat) (a : Int), vu = .bool false ∧ vn = .int .u64 a ∧ vi = .int .i64 k ∧ k ≤ t.size ∧ Hid (0 ≤ a ∧ a < 16 ^ k ∧ hexRun bs 0 = hexRun (bs.drop k) a))
    (fun _ _ vi => t.size - (intOf vi).toNat)
  case atStart => exact ⟨0, 0, rfl, rfl, rfl, by omega, by omega, by omega, rfl⟩
  case round =>
    obtain ⟨k, a, rfl, rfl, rfl, hk, hh⟩ := hrel
    obtain ⟨a0, a1, hdec⟩ := hh.out
    clear hh
    by_cases hkn : k < t.size
    · have hk2 : k = 0 ∨ k = 1 := by omega
      have hp : (16 : Int) ^ k * 16 = 16 ^ (k + 1) := (Int.pow_succ _ _).symm
      have a2 : a ≤ 15 := by rcases hk2 with rfl | rfl <;> omega
      have hc := hB k hkn
      have hdrop : bs.drop k = bs[k]'(by omega) :: bs.drop (k + 1) := List.drop_eq_getElem_cons (by omega)
      have hget : bs.getD k 0 = bs[k]'(by omega) := by simp [List.getD, List.getElem?_eq_getElem (show k < bs.length by omega)]
      rw [hdrop] at hdec
      rw [hget] at hc
      generalize bs[k]'(by omega) = c at hc hdec
      have hc256 : c.toNat < 256 := c.toNat_lt
      clear hB hdrop hget
      by_cases hdig : 48 ≤ c.toNat ∧ c.toNat ≤ 57
      · have hok : hexOk c = true := by unfold hexOk; rw [decide_eq_true hdig]; rfl
        have hv : hexV c = (c.toNat : Int) - 48 := by unfold hexV; rw [if_pos hdig]
        have hF : hexRun (c :: bs.drop (k + 1)) a = hexRun (bs.drop (k + 1)) (a * 16 + ((c.toNat : Int) - 48)) := by simp only [hexRun, hok, if_true, hv]
        obtain ⟨hd0, hd1⟩ := hdig
        have HN : Hid (0 ≤ a * 16 + ((c.toNat : Int) - 48) ∧ a * 16 + ((c.toNat : Int) - 48) < 16 ^ (k + 1) ∧ hexRun bs 0 = hexRun (bs.drop (k + 1)) (a * 16 + ((c.toNat : Int) - 48))) := Lib.hid ⟨by omega, by omega, hdec.trans hF⟩
        clear hF hdec hok hv hp a1 hk2
        go_wp2
        exact ⟨⟨k + 1, _, rfl, rfl, rfl, by omega, HN⟩, by simp [intOf]; omega⟩
      · have hv0 := bits_lo_u8 .or (c.toNat : Int) 32
        have hv1 := bits_hi_u8 .or (c.toNat : Int) 32
        have hV : hexV c = bits .or .u8 (c.toNat : Int) 32 - 87 := by unfold hexV; rw [if_neg hdig]
        have hO : hexOk c = decide (97 ≤ bits .or .u8 (c.toNat : Int) 32 ∧ bits .or .u8 (c.toNat : Int) 32 ≤ 102) := by unfold hexOk; rw [decide_eq_false hdig]; rfl
        by_cases hlet : 97 ≤ bits .or .u8 (c.toNat : Int) 32 ∧ bits .or .u8 (c.toNat : Int) 32 ≤ 102
        · rw [decide_eq_true hlet] at hO
          have hF : hexRun (c :: bs.drop (k + 1)) a = hexRun (bs.drop (k + 1)) (a * 16 + (bits .or .u8 (c.toNat : Int) 32 - 87)) := by simp only [hexRun, hO, if_true, hV]
          obtain ⟨l0, l1⟩ := hlet
          have HN : Hid (0 ≤ a * 16 + (bits .or .u8 (c.toNat : Int) 32 - 87) ∧ a * 16 + (bits .or .u8 (c.toNat : Int) 32 - 87) < 16 ^ (k + 1) ∧ hexRun bs 0 = hexRun (bs.drop (k + 1)) (a * 16 + (bits .or .u8 (c.toNat : Int) 32 - 87))) := Lib.hid ⟨by omega, by omega, hdec.trans hF⟩
          have hlow := fun W => Tryd.internal_strconv_lower (c.toNat : Int) W
          clear hF hdec hO hV hp a1 hk2
          have h95 : ¬ (c.toNat : Int) = 95 := fun e => by rw [e] at l1; revert l1; decide
          generalize bits .or .u8 (c.toNat : Int) 32 = v at *
          go_wp2_with (go_at_call 86; refine (hlow _).mono ?_; rintro e w' ⟨rfl, rfl⟩)
          all_goals exact ⟨⟨k + 1, _, rfl, (by congr 1; omega), rfl, by omega, HN⟩, by simp [intOf]; omega⟩
        · rw [decide_eq_false hlet] at hO
          have hF : hexRun (c :: bs.drop (k + 1)) a = none := by simp only [hexRun, hO]; rfl
          rw [hF] at hdec
          have HD := Lib.hid hdec
          have hlow := fun W => Tryd.internal_strconv_lower (c.toNat : Int) W
          clear hF hdec hO hV hp a1 hk2
          by_cases h95 : (c.toNat : Int) = 95
          · rw [h95] at hlow hc
            have hv : bits .or .u8 (95 : Int) 32 = 127 := by decide
            rw [hv] at hlow
            clear h95 hlet hv0 hv1 hdig
            go_wp2_with (go_at_call 86; refine (hlow _).mono ?_; rintro e w' ⟨rfl, rfl⟩)
            all_goals go_ret2
            all_goals exact ⟨by rw [HD.out]; rfl, rfl⟩
          · generalize bits .or .u8 (c.toNat : Int) 32 = v at *
            go_wp2_with (go_at_call 86; refine (hlow _).mono ?_; rintro e w' ⟨rfl, rfl⟩)
            all_goals go_ret2
            all_goals exact ⟨by rw [HD.out]; rfl, rfl⟩
    · have hkk : k = t.size := by omega
      subst hkk
      have hF : hexRun (bs.drop t.size) a = some a := by rw [List.drop_eq_nil_of_le (by omega)]; rfl
      rw [hF] at hdec
      have HD := Lib.hid hdec
      clear hdec hF a1
      go_wp2
      go_ret2
      exact ⟨by rw [HD.out]; rfl, rfl⟩
end Go.Proofs.YtnikkejfpnnmcaaDoor.Quo
