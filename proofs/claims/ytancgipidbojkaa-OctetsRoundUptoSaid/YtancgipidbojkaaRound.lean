/- OctetsRound: what Quote writes Octets reads. -/
import Derived.Test.YtancgipidbojkaaOctets
import Derived.Test.YtancgipidbojkaaPOctetsRoundx1
import Derived.DataShut
namespace Go.Proofs.Ytancgipidbojkaa.Quo
open Go.RowKit Go.Proofs.YtancgipidbojkaaW.PrintWords Go.Proofs.YtancgipidbojkaaW.PrintLast Go.Proofs.YtancgipidbojkaaW.PrintMore Go.Proofs.Ytancgipidbojkaa.Bld

/-! ### the plain law -/
theorem hexd_plain : ∀ n : Fin 16, hexd n.val ≠ 92 ∧ hexd n.val ≠ 34 := by decide
theorem hex_back_fin : ∀ c : Fin 256, hexv (hexd (c.val / 16)) (hexd (c.val % 16)) = (c.val : Int) := by decide +kernel
theorem hex_back (c : UInt8) : hexv (hexd (c.toNat / 16)) (hexd (c.toNat % 16)) = (c.toNat : Int) := hex_back_fin ⟨c.toNat, UInt8.toNat_lt c⟩

theorem qEnd_quos (bs : List UInt8) : ∀ i : Nat, qEnd (bs.flatMap quo ++ [34]) i = (i : Int) + (bs.flatMap quo).length + 1 := by
  induction bs with
  | nil => intro i; rw [List.flatMap_nil, List.nil_append, qEnd_quote]; simp
  | cons c cs ih =>
    intro i
    rw [List.flatMap_cons]
    by_cases h1 : c = 34 ∨ c = 92
    · have hq : quo c = [92, c] := by unfold quo; rw [if_pos h1]
      rw [hq]
      show qEnd (92 :: (c :: (cs.flatMap quo ++ [34]))) i = _
      rw [qEnd_esc, List.drop_one, List.tail_cons, ih]
      simp only [List.length_append, List.length_cons, List.length_nil]; omega
    · by_cases h2 : 32 ≤ c.toNat ∧ c.toNat ≤ 126
      · have hq : quo c = [c] := by unfold quo; rw [if_neg h1, if_pos h2]
        rw [hq]
        show qEnd (c :: (cs.flatMap quo ++ [34])) i = _
        rw [qEnd_other _ _ _ (fun e => h1 (.inr e)) (fun e => h1 (.inl e)), ih]
        simp only [List.length_append, List.length_cons, List.length_nil]; omega
      · have hq : quo c = [92, 120, hexd (c.toNat / 16), hexd (c.toNat % 16)] := by unfold quo; rw [if_neg h1, if_neg h2]
        have hc := UInt8.toNat_lt c
        have p1 := hexd_plain ⟨c.toNat / 16, by omega⟩
        have p2 := hexd_plain ⟨c.toNat % 16, by omega⟩
        rw [hq]
        show qEnd (92 :: (120 :: (hexd (c.toNat / 16) :: (hexd (c.toNat % 16) :: (cs.flatMap quo ++ [34]))))) i = _
        rw [qEnd_esc, List.drop_one, List.tail_cons, qEnd_other _ _ _ p1.1 p1.2, qEnd_other _ _ _ p2.1 p2.2, ih]
        simp only [List.length_append, List.length_cons, List.length_nil]; omega

theorem unq_quos (bs : List UInt8) : unq (bs.flatMap quo ++ [34]) = ints bs := by
  induction bs with
  | nil => exact unq_end _ (by simp)
  | cons c cs ih =>
    rw [List.flatMap_cons]
    by_cases h1 : c = 34 ∨ c = 92
    · have hq : quo c = [92, c] := by unfold quo; rw [if_pos h1]
      rw [hq]
      show unq (92 :: c :: (cs.flatMap quo ++ [34])) = _
      rw [unq_esc _ _ (.inl (by rcases h1 with rfl | rfl <;> decide)), ih]; rfl
    · by_cases h2 : 32 ≤ c.toNat ∧ c.toNat ≤ 126
      · have hq : quo c = [c] := by unfold quo; rw [if_neg h1, if_pos h2]
        rw [hq]
        show unq (c :: (cs.flatMap quo ++ [34])) = _
        rw [unq_plain _ _ (fun e => h1 (.inr e)) (by simp), ih]; rfl
      · have hq : quo c = [92, 120, hexd (c.toNat / 16), hexd (c.toNat % 16)] := by unfold quo; rw [if_neg h1, if_neg h2]
        rw [hq]
        show unq (92 :: 120 :: hexd (c.toNat / 16) :: hexd (c.toNat % 16) :: (cs.flatMap quo ++ [34])) = _
        rw [unq_hex, ih, hex_back]; rfl

theorem quotes_len (bs : List UInt8) : (quotes bs).length = (bs.flatMap quo).length + 2 := by unfold quotes; simp

/-- A string that Quote writes. -/
structure Quoted (s : ByteArray) (bs : List UInt8) : Prop where
  list : s.data.toList = quotes bs
  size : s.size = (bs.flatMap quo).length + 2
theorem quoted (bs : List UInt8) : Quoted ⟨(quotes bs).toArray⟩ bs where
  list := by simp
  size := by rw [← quotes_len]; show (quotes bs).toArray.size = _; simp
theorem Quoted.eq {s : ByteArray} {bs : List UInt8} (h : Quoted s bs) : (⟨(quotes bs).toArray⟩ : ByteArray) = s := by
  have := h.list
  cases s with | mk d => congr 1; apply Array.toList_inj.1; simpa using this.symm
theorem Quoted.drop {s : ByteArray} {bs : List UInt8} (h : Quoted s bs) : s.data.toList.drop 1 = bs.flatMap quo ++ [34] := by rw [h.list]; rfl

set_option maxHeartbeats 2000000 in
set_option maxRecDepth 100000 in
theorem octets_large (s : ByteArray) (w : World) (hl : 200000 < s.size) :
    Calls Try.prog 47 #[.string s] w fun e w' => e = .returned (.tuple #[.slice none 0 0, .int .i64 4]) ∧ w = w' := by
  have hd : decide (200000 < (s.size : Int)) = true := by simp; omega
  go_enter Try.func47, Try.ntmps47
  go_wp2
  go_ret2
  exact ⟨rfl, rfl⟩

set_option maxHeartbeats 2000000 in
set_option maxRecDepth 100000 in
theorem octets_ok (s : ByteArray) (bs : List UInt8) (hq : Quoted s bs) (w : World) (hl : s.size ≤ 200000) (hb : bs.length ≤ 2000000) :
    Calls Try.prog 47 #[.string s] w fun e w' => ∃ v, e = .returned (.tuple #[v, .int .i64 0]) ∧ Kd.R (Kd.int .u8) 5 w' w.heap.size (fun _ => True) v (ints bs) ∧ Below w.heap.size w w' := by
  have hsz := hq.size
  have h0 : 0 < s.size := by omega
  have h34 : s[0] = 34 := by
    have h1 := str_at s 0 h0
    rw [List.drop_zero, hq.list] at h1
    exact (List.cons.inj h1).1.symm
  have e0 : (s.toList.isEmpty) = false := by
    rw [ByteArray.toList_eq, hq.list]; rfl
  have e34 : ((s[0].toNat : Int) != 34) = false := by rw [h34]; rfl
  have hqe : qEnd (s.data.toList.drop 1) 1 = (s.size : Int) := by rw [hq.drop, qEnd_quos]; omega
  have hun : unq (s.data.toList.drop 1) = ints bs := by rw [hq.drop, unq_quos]
  have HQ := Aside0.mk hq
  have HE := Lib.hid hqe
  have HU := Lib.hid hun
  clear hqe hun h34 hq hsz
  go_enter Try.func47, Try.ntmps47
  go_wp2_with fail
  refine (quotedEnd s w (by omega)).mono ?_
  rintro e w' ⟨rfl, rfl⟩
  rw [HE.out]
  go_wp2_with fail
  refine (unquote s w (by omega)).mono ?_
  rintro e w1 ⟨v, rfl, hR, hB⟩
  rw [HU.out] at hR
  have HR := Aside0.mk hR
  obtain ⟨A, c, rfl, hc, hC⟩ := Kd.R_reads hR
  have hlen : (ints bs).length = bs.length := ints_length bs
  have HC := Aside0.mk (Kd.reads_of_C (d := (0 : Int)) hC)
  have HL := Lib.hid hlen
  have HB := Aside0.mk hB
  clear hR hB hC hlen
  go_wp2_with fail
  refine (quote A _ c bs w1 HC.out (by rw [HL.out]; exact hb)).mono ?_
  rintro e w2 ⟨rfl, hB2⟩
  rw [HQ.out.eq]
  have HB2 := Aside0.mk hB2
  clear hB2
  go_wp2_with fail
  go_ret2
  exact ⟨_, rfl, Kd.R_below HR.out HB2.out, HB.out.trans (HB2.out.mono HB.out.size)⟩

set_option maxHeartbeats 1000000 in
theorem awakeScript (w : World) : Calls Try.prog 45 #[] w fun e w' => e = .returned (.bool true) ∧ Below w.heap.size w w' := by
  go_enter Try.func45, Try.ntmps45
  go_wp2_with fail
  refine (quote none 0 0 [] w ⟨rfl, by omega, fun h => absurd h (by omega)⟩ (by omega)).mono ?_
  rintro e w1 ⟨rfl, hB⟩
  have HB := Aside0.mk hB
  clear hB
  go_wp2_with fail
  go_ret
  exact ⟨rfl, HB.out⟩

theorem wrap_ok (i : Int) (h0 : -9223372036854775808 ≤ i) (h1 : i ≤ 9223372036854775807) : wrap64 i = i := by
  unfold wrap64; omega
theorem equal_l (l : List Int) (hl : l.length ≤ 2000000) (d : Nat) : ∀ (k : Nat) (i : Int), 0 ≤ i → i ≤ l.length → (l.length : Int) - i = d → d < k →
    POctetsRound.slices_Equal_byte_byte.l0 k l l (l.length : Int) i = some true := by
  induction d with
  | zero =>
    intro k i h0 h1 hd hk
    obtain ⟨k, rfl⟩ : ∃ m, k = m + 1 := ⟨k - 1, by omega⟩
    simp only [POctetsRound.slices_Equal_byte_byte.l0]
    rw [if_neg (by omega)]
  | succ d ih =>
    intro k i h0 h1 hd hk
    obtain ⟨k, rfl⟩ : ∃ m, k = m + 1 := ⟨k - 1, by omega⟩
    simp only [POctetsRound.slices_Equal_byte_byte.l0]
    rw [if_pos (by omega), if_pos h0, if_pos (by omega), if_pos (by omega), if_pos trivial, wrap_ok _ (by omega) (by omega)]
    exact ih k (i + 1) (by omega) (by omega) (by omega) (by omega)

theorem equalBytes (A0 A1 : Option Addr) (c0 c1 : Nat) (xs : List Int) (w : World) (hx : xs.length ≤ 2000000) (h0 : Kd.C (Kd.int .u8) w A0 xs.length xs) (hc0 : xs.length ≤ c0) (h1 : Kd.C (Kd.int .u8) w A1 xs.length xs) (hc1 : xs.length ≤ c1) :
    Calls Try.prog 48 #[.slice A0 xs.length c0, .slice A1 xs.length c1] w fun e w' => e = .returned (.bool true) ∧ Below w.heap.size w w' := by
  refine (POctetsRound.slices_Equal_byte_byte.calls (xs.length + 1) A0 c0 xs A1 c1 xs true w h0 hc0 h1 hc1 ?_).mono fun e w' ⟨he, hd⟩ => ⟨he, hd.below⟩
  unfold POctetsRound.slices_Equal_byte_byte.f
  rw [if_pos rfl]
  exact equal_l xs hx xs.length _ 0 (by omega) (by omega) (by omega) (by omega)

/-- The bytes of a row of whole numbers. -/
def bytesOf (xs : List Int) : List UInt8 := xs.map fun i => UInt8.ofNat i.toNat
theorem ints_bytesOf (xs : List Int) (h : ∀ n ∈ xs, (Lit.int .u8 n).wf = true) : ints (bytesOf xs) = xs := by
  unfold ints bytesOf
  rw [List.map_map]
  conv => rhs; rw [← List.map_id xs]
  apply List.map_congr_left
  intro x hx
  have h1 := h x hx
  rw [Lit.wf_int_iff] at h1
  have h2 : (0 : Int) ≤ x ∧ x ≤ 255 := h1
  simp
  omega
theorem bytesOf_length (xs : List Int) : (bytesOf xs).length = xs.length := by unfold bytesOf; simp

set_option maxHeartbeats 2000000 in
set_option maxRecDepth 100000 in
theorem octetsRound (a : Option Addr) (xs : List Int) (cap : Nat) (w : World) (hr : ReadsInt w .u8 a xs.length xs) (hwf : ∀ x ∈ xs, (Lit.int .u8 x).wf = true) (hc : xs.length ≤ cap) (hl : xs.length ≤ 2000000) :
    Calls Try.prog 13 #[.slice a xs.length cap] w fun e w' => e = .returned (.bool true) ∧ Below w.heap.size w w' := by
  obtain ⟨bs, hbs⟩ : ∃ bs, ints bs = xs := ⟨_, ints_bytesOf xs hwf⟩
  have hlen : bs.length = xs.length := by rw [← hbs, ints_length]
  have HR := Aside0.mk hr
  have HX := Lib.hid hbs
  have HL := Lib.hid hlen
  have hQ := quoted bs
  generalize hs : (⟨(quotes bs).toArray⟩ : ByteArray) = s at hQ
  have HS := Lib.hid hs
  have HQ := Aside0.mk hQ
  clear hr hwf hbs hlen hs hQ
  go_enter Try.func13, Try.ntmps13
  go_wp2_with (go_at_call 45; refine (awakeScript w).mono ?_; rintro e w1 ⟨rfl, hB1⟩; have HB1 := Aside0.mk hB1; clear hB1)
  go_wp2_with fail
  refine (quote a _ cap bs w1 (by rw [HX.out]; exact HR.out.below HB1.out) hl).mono ?_
  rintro e w2 ⟨rfl, hB2⟩
  rw [HS.out]
  have HB2 := Aside0.mk hB2
  clear hB2
  go_wp2_with fail
  by_cases hlarge : 200000 < s.size
  · have hd : decide (200000 < (s.size : Int)) = true := by simp; omega
    refine (octets_large s w2 hlarge).mono ?_
    rintro e w3 ⟨rfl, rfl⟩
    go_wp2_with fail
    go_ret
    exact ⟨rfl, HB1.out.trans (HB2.out.mono HB1.out.size)⟩
  · have hd : decide (200000 < (s.size : Int)) = false := by simp; omega
    refine (octets_ok s bs HQ.out w2 (by omega) (by rw [HL.out]; exact hl)).mono ?_
    rintro e w3 ⟨v, rfl, hR3, hB3⟩
    rw [HX.out] at hR3
    obtain ⟨A, c, rfl, hc3, hC⟩ := Kd.R_reads hR3
    have HC := Aside0.mk hC
    have HB3 := Aside0.mk hB3
    clear hR3 hC hB3
    go_wp2_with fail
    refine (equalBytes a A cap c xs w3 hl (Kd.C_of_reads ((HR.out.below HB1.out).below HB2.out |>.below HB3.out)) hc HC.out hc3).mono ?_
    rintro e w4 ⟨rfl, hB4⟩
    have HB4 := Aside0.mk hB4
    clear hB4
    go_wp2_with fail
    go_ret
    exact ⟨rfl, HB1.out.trans ((HB2.out.trans ((HB3.out.trans (HB4.out.mono HB3.out.size)).mono HB2.out.size)).mono HB1.out.size)⟩
theorem octetsRound_row (a : Option Addr) (len cap : Nat) (zs : List Int) (w : World) (hrow : (a = none ∧ len = 0 ∧ cap = 0 ∧ zs = []) ∨
    ∃ x, a = some x ∧ len ≤ cap ∧ cap ≤ maxLen ∧ zs.length = cap ∧ (∀ i, i < zs.length → w.cell? (x.add i) = some (.int .u8 (zs.getD i 0))) ∧ ∀ n ∈ zs, (Lit.int .u8 n).wf = true) (hl : len ≤ 1048576) :
    Calls Try.prog 13 #[.slice a len cap] w fun e w' => e = .returned (.bool true) ∧ Below w.heap.size w w' := by
  obtain ⟨xs, rfl, hr, _, hwf, hc⟩ := ReadsInt.ofRowC hrow
  exact octetsRound a xs cap w hr hwf hc (by omega)
end Go.Proofs.Ytancgipidbojkaa.Quo
