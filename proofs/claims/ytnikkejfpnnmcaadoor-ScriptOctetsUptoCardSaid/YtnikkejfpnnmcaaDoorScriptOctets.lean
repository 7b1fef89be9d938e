/- ScriptOctets: the law. -/
import Derived.Test.YtnikkejfpnnmcaaDoorOctetsOf
import Derived.Test.YtnikkejfpnnmcaaDoorEqual8
import Derived.DataShut
namespace Go.Proofs.YtnikkejfpnnmcaaDoor.Quo
set_option linter.unusedVariables false
set_option linter.unusedSimpArgs false
open Go.RowKit Go.Proofs.YtnikkejfpnnmcaaDoorW.PrintWords Go.Proofs.YtnikkejfpnnmcaaDoorW.PrintLast Go.Proofs.YtnikkejfpnnmcaaDoorW.PrintMore Go.Proofs.YtnikkejfpnnmcaaDoor.Bld

/-- Octets and OctetsOf say the same. -/
def Both (s : ByteArray) (w : World) : Prop := ∃ (n : Nat) (er : Int) (xs : List Int), n ≤ 200000 ∧
  Calls Tryd.prog 14 #[.string s] w (fun e w' => ∃ A c, e = .returned (.tuple #[.slice A n c, .int .i64 er]) ∧ ReadsInt w' .u8 A n xs ∧ Below w.heap.size w w') ∧
  (∀ w1, Below w.heap.size w w1 → Calls Tryd.prog 15 #[.string s] w1 (fun e w' => ∃ A c, e = .returned (.tuple #[.slice A n c, .int .i64 er]) ∧ ReadsInt w' .u8 A n xs ∧ Below w1.heap.size w1 w'))
theorem both (s : ByteArray) (w : World) (hE : ErrVar w) : Both s w := by
  by_cases hl : 200000 < s.size
  · refine ⟨0, 4, [], by omega, (octets_large s w hl).mono ?_, fun w1 hb => (octetsOf s w1 (hE.below hb)).mono ?_⟩
    · rintro e w' ⟨rfl, rfl⟩
      exact ⟨none, 0, rfl, ⟨rfl, by omega, fun h => absurd h (by omega)⟩, Below.refl _ _⟩
    · rintro e w' ⟨hB, h | h | h⟩
      · exact ⟨none, 0, h.2, ⟨rfl, by omega, fun h => absurd h (by omega)⟩, hB⟩
      · exact absurd h.1 (by omega)
      · exact absurd h.1 (by omega)
  · by_cases hq : ∃ bs, s.data.toList = quotes bs
    · obtain ⟨bs, hs⟩ := hq
      have hQ : Quoted s bs := ⟨hs, by have h1 : s.data.toList.length = s.size := rfl; rw [← h1, hs, quotes_len]⟩
      have hlen : bs.length ≤ 200000 := by have := quotes_long bs; rw [← hs] at this; have h1 : s.data.toList.length = s.size := rfl; omega
      refine ⟨bs.length, 0, ints bs, hlen, (octets_ok s bs hQ w (by omega) (by omega)).mono ?_, fun w1 hb => (octetsOf s w1 (hE.below hb)).mono ?_⟩
      · rintro e w' ⟨v, rfl, hR, hB⟩
        obtain ⟨A, c, rfl, hc, hC⟩ := Kd.R_reads hR
        have := Kd.reads_of_C (d := (0 : Int)) hC
        rw [ints_length] at this ⊢
        exact ⟨A, c, rfl, this, hB⟩
      · rintro e w' ⟨hB, h | h | h⟩
        · exact absurd h.1 (by omega)
        · exact absurd hs (h.2.1 bs)
        · obtain ⟨_, out, ho, _, v, rfl, hR⟩ := h
          obtain rfl : bs = out := quotes_inj (hs.symm.trans ho)
          obtain ⟨A, c, rfl, hc, hC⟩ := Kd.R_reads hR
          have := Kd.reads_of_C (d := (0 : Int)) hC
          rw [ints_length] at this ⊢
          exact ⟨A, c, rfl, this, hB⟩
    · have hno : ∀ bs, s.data.toList ≠ quotes bs := fun bs e => hq ⟨bs, e⟩
      refine ⟨0, 8, [], by omega, (octets_bad s w (by omega) hno).mono ?_, fun w1 hb => (octetsOf s w1 (hE.below hb)).mono ?_⟩
      · rintro e w' ⟨rfl, hB⟩
        exact ⟨none, 0, rfl, ⟨rfl, by omega, fun h => absurd h (by omega)⟩, hB⟩
      · rintro e w' ⟨hB, h | h | h⟩
        · exact absurd h.1 (by omega)
        · exact ⟨none, 0, h.2.2, ⟨rfl, by omega, fun h => absurd h (by omega)⟩, hB⟩
        · obtain ⟨_, out, ho, _⟩ := h
          exact absurd ho (hno out)

set_option maxHeartbeats 4000000 in
set_option maxRecDepth 100000 in
theorem scriptOctets (a : Option Addr) (cap : Nat) (xs : List Int) (s : ByteArray) (w : World) (hr : ReadsInt w .u8 a xs.length xs) (hwf : ∀ x ∈ xs, (Lit.int .u8 x).wf = true) (hl : xs.length ≤ 2000000) (hE : ErrVar w) :
    Calls Tryd.prog 6 #[.slice a xs.length cap, .string s] w fun e w' => e = .returned (.bool true) ∧ Below w.heap.size w w' := by
  obtain ⟨bs, hbs⟩ : ∃ bs : List UInt8, ints bs = xs := by
    refine ⟨xs.map fun i => UInt8.ofNat i.toNat, ?_⟩
    unfold ints
    rw [List.map_map]
    conv => rhs; rw [← List.map_id xs]
    apply List.map_congr_left
    intro x hx
    have h1 := hwf x hx
    rw [Lit.wf_int_iff] at h1
    have h2 : (0 : Int) ≤ x ∧ x ≤ 255 := h1
    simp
    omega
  obtain ⟨n, er, ys, hn, hc1, hc2⟩ := both s w hE
  have HR := Aside0.mk hr
  have HX := Lib.hid hbs
  have H1 := Aside0.mk hc1
  have H2 := Lib.hid hc2
  generalize hm : xs.length = m at HR hl ⊢
  clear hr hwf hbs hc1 hc2 hE hm
  go_enter Tryd.func6, Tryd.ntmps6
  go_wp2_with fail
  refine H1.out.mono ?_
  rintro e w1 ⟨A1, c1, rfl, hR1, hB1⟩
  have HR1 := Aside0.mk hR1
  have HB1 := Aside0.mk hB1
  clear hR1 hB1
  go_wp2_with fail
  refine (H2.out w1 HB1.out).mono ?_
  rintro e w2 ⟨A2, c2, rfl, hR2, hB2⟩
  have HR2 := Aside0.mk hR2
  have HB2 := Aside0.mk hB2
  have HW2 := Aside0.mk (HB1.out.trans (hB2.mono HB1.out.size))
  have HS1 := Aside0.mk (HR1.out.below HB2.out)
  clear hR2 hB2
  go_wp2_with fail
  refine (equal8 A1 A2 c1 c2 n ys w2 HS1.out HR2.out (by omega)).mono ?_
  rintro e w3 ⟨rfl, hB3⟩
  have HW3 := Aside0.mk (HW2.out.trans (hB3.mono HW2.out.size))
  clear hB3
  go_wp2_with fail
  refine (quote a m cap bs w3 (by rw [HX.out]; exact HR.out.below HW3.out) hl).mono ?_
  rintro e w4 ⟨rfl, hB4⟩
  have HW4 := Aside0.mk (HW3.out.trans (hB4.mono HW3.out.size))
  clear hB4
  go_wp2_with fail
  refine (quoteOf a m cap bs w4 (by rw [HX.out]; exact HR.out.below HW4.out) hl).mono ?_
  rintro e w5 ⟨rfl, hB5⟩
  have HW5 := Aside0.mk (HW4.out.trans (hB5.mono HW4.out.size))
  have hself : (quotes bs == quotes bs) = true := by rw [beq_iff_eq]
  clear hB5
  go_wp2
  go_ret
  exact ⟨rfl, HW5.out⟩
end Go.Proofs.YtnikkejfpnnmcaaDoor.Quo
