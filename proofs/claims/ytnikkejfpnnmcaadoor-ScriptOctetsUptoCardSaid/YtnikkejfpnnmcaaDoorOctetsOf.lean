/- script.Octets and cornref1.OctetsOf: the same. -/
import Derived.Test.YtnikkejfpnnmcaaDoorQuoted
namespace Go.Proofs.YtnikkejfpnnmcaaDoor.Quo
set_option linter.unusedVariables false
set_option linter.unusedSimpArgs false
open Go.RowKit Go.Proofs.YtnikkejfpnnmcaaDoorW.PrintWords Go.Proofs.YtnikkejfpnnmcaaDoorW.PrintLast Go.Proofs.YtnikkejfpnnmcaaDoorW.PrintMore Go.Proofs.YtnikkejfpnnmcaaDoor.Bld

theorem hexd_plain : ∀ n : Fin 16, hexd n.val ≠ 92 ∧ hexd n.val ≠ 34 := by decide
theorem hex_back_fin : ∀ c : Fin 256, hexv (hexd (c.val / 16)) (hexd (c.val % 16)) = (c.val : Int) := by decide +kernel
theorem hex_back (c : UInt8) : hexv (hexd (c.toNat / 16)) (hexd (c.toNat % 16)) = (c.toNat : Int) := hex_back_fin ⟨c.toNat, UInt8.toNat_lt c⟩
theorem qEnd_quos (bs : List UInt8) : ∀ i : Nat, qEnd (bs.flatMap quo ++ [34]) i = (i : Int) + (bs.flatMap quo).length + 1 := by
  induction bs with
  | nil => intro i; rw [List.flatMap_nil, List.nil_append, qEnd_quote]; simp
  | cons c cs ih =>
    intro i
    rw [List.flatMap_cons]
    by_cases h1 : c = 34 ∨ c = 92
    · have hq : quo c = [92, c] := by unfold quo; rw [if_pos h1]
      rw [hq]
      show qEnd (92 :: (c :: (cs.flatMap quo ++ [34]))) i = _
      rw [qEnd_esc, List.drop_one, List.tail_cons, ih]
      simp only [List.length_append, List.length_cons, List.length_nil]; omega
    · by_cases h2 : 32 ≤ c.toNat ∧ c.toNat ≤ 126
      · have hq : quo c = [c] := by unfold quo; rw [if_neg h1, if_pos h2]
        rw [hq]
        show qEnd (c :: (cs.flatMap quo ++ [34])) i = _
        rw [qEnd_other _ _ _ (fun e => h1 (.inr e)) (fun e => h1 (.inl e)), ih]
        simp only [List.length_append, List.length_cons, List.length_nil]; omega
      · have hq : quo c = [92, 120, hexd (c.toNat / 16), hexd (c.toNat % 16)] := by unfold quo; rw [if_neg h1, if_neg h2]
        have hc := UInt8.toNat_lt c
        have p1 := hexd_plain ⟨c.toNat / 16, by omega⟩
        have p2 := hexd_plain ⟨c.toNat % 16, by omega⟩
        rw [hq]
        show qEnd (92 :: (120 :: (hexd (c.toNat / 16) :: (hexd (c.toNat % 16) :: (cs.flatMap quo ++ [34]))))) i = _
        rw [qEnd_esc, List.drop_one, List.tail_cons, qEnd_other _ _ _ p1.1 p1.2, qEnd_other _ _ _ p2.1 p2.2, ih]
        simp only [List.length_append, List.length_cons, List.length_nil]; omega

theorem unq_quos (bs : List UInt8) : unq (bs.flatMap quo ++ [34]) = ints bs := by
  induction bs with
  | nil => exact unq_end _ (by simp)
  | cons c cs ih =>
    rw [List.flatMap_cons]
    by_cases h1 : c = 34 ∨ c = 92
    · have hq : quo c = [92, c] := by unfold quo; rw [if_pos h1]
      rw [hq]
      show unq (92 :: c :: (cs.flatMap quo ++ [34])) = _
      rw [unq_esc _ _ (.inl (by rcases h1 with rfl | rfl <;> decide)), ih]; rfl
    · by_cases h2 : 32 ≤ c.toNat ∧ c.toNat ≤ 126
      · have hq : quo c = [c] := by unfold quo; rw [if_neg h1, if_pos h2]
        rw [hq]
        show unq (c :: (cs.flatMap quo ++ [34])) = _
        rw [unq_plain _ _ (fun e => h1 (.inr e)) (by simp), ih]; rfl
      · have hq : quo c = [92, 120, hexd (c.toNat / 16), hexd (c.toNat % 16)] := by unfold quo; rw [if_neg h1, if_neg h2]
        rw [hq]
        show unq (92 :: 120 :: hexd (c.toNat / 16) :: hexd (c.toNat % 16) :: (cs.flatMap quo ++ [34])) = _
        rw [unq_hex, ih, hex_back]; rfl

theorem quotes_len (bs : List UInt8) : (quotes bs).length = (bs.flatMap quo).length + 2 := by unfold quotes; simp

/-- A string that Quote writes. -/
structure Quoted (s : ByteArray) (bs : List UInt8) : Prop where
  list : s.data.toList = quotes bs
  size : s.size = (bs.flatMap quo).length + 2
theorem quoted (bs : List UInt8) : Quoted ⟨(quotes bs).toArray⟩ bs where
  list := by simp
  size := by rw [← quotes_len]; show (quotes bs).toArray.size = _; simp
theorem Quoted.eq {s : ByteArray} {bs : List UInt8} (h : Quoted s bs) : (⟨(quotes bs).toArray⟩ : ByteArray) = s := by
  have := h.list
  cases s with | mk d => congr 1; apply Array.toList_inj.1; simpa using this.symm
theorem Quoted.drop {s : ByteArray} {bs : List UInt8} (h : Quoted s bs) : s.data.toList.drop 1 = bs.flatMap quo ++ [34] := by rw [h.list]; rfl

set_option maxHeartbeats 2000000 in
set_option maxRecDepth 100000 in
theorem octets_large (s : ByteArray) (w : World) (hl : 200000 < s.size) :
    Calls Tryd.prog 14 #[.string s] w fun e w' => e = .returned (.tuple #[.slice none 0 0, .int .i64 4]) ∧ w = w' := by
  have hd : decide (200000 < (s.size : Int)) = true := by simp; omega
  go_enter Tryd.func14, Tryd.ntmps14
  go_wp2
  go_ret2
  exact ⟨rfl, rfl⟩

set_option maxHeartbeats 2000000 in
set_option maxRecDepth 100000 in
theorem octets_ok (s : ByteArray) (bs : List UInt8) (hq : Quoted s bs) (w : World) (hl : s.size ≤ 200000) (hb : bs.length ≤ 2000000) :
    Calls Tryd.prog 14 #[.string s] w fun e w' => ∃ v, e = .returned (.tuple #[v, .int .i64 0]) ∧ Kd.R (Kd.int .u8) 5 w' w.heap.size (fun _ => True) v (ints bs) ∧ Below w.heap.size w w' := by
  have hsz := hq.size
  have h0 : 0 < s.size := by omega
  have h34 : s[0] = 34 := by
    have h1 := str_at s 0 h0
    rw [List.drop_zero, hq.list] at h1
    exact (List.cons.inj h1).1.symm
  have e0 : (s.toList.isEmpty) = false := by
    rw [ByteArray.toList_eq, hq.list]; rfl
  have e34 : ((s[0].toNat : Int) != 34) = false := by rw [h34]; rfl
  have hqe : qEnd (s.data.toList.drop 1) 1 = (s.size : Int) := by rw [hq.drop, qEnd_quos]; omega
  have hun : unq (s.data.toList.drop 1) = ints bs := by rw [hq.drop, unq_quos]
  have HQ := Aside0.mk hq
  have HE := Lib.hid hqe
  have HU := Lib.hid hun
  clear hqe hun h34 hq hsz
  go_enter Tryd.func14, Tryd.ntmps14
  go_wp2_with fail
  refine (quotedEnd s w (by omega)).mono ?_
  rintro e w' ⟨rfl, rfl⟩
  rw [HE.out]
  go_wp2_with fail
  refine (unquote s w (by omega)).mono ?_
  rintro e w1 ⟨v, rfl, hR, hB⟩
  rw [HU.out] at hR
  have HR := Aside0.mk hR
  obtain ⟨A, c, rfl, hc, hC⟩ := Kd.R_reads hR
  have hlen : (ints bs).length = bs.length := ints_length bs
  have HC := Aside0.mk (Kd.reads_of_C (d := (0 : Int)) hC)
  have HL := Lib.hid hlen
  have HB := Aside0.mk hB
  clear hR hB hC hlen
  go_wp2_with fail
  refine (quote A _ c bs w1 HC.out (by rw [HL.out]; exact hb)).mono ?_
  rintro e w2 ⟨rfl, hB2⟩
  rw [HQ.out.eq]
  have HB2 := Aside0.mk hB2
  clear hB2
  go_wp2_with fail
  go_ret2
  exact ⟨_, rfl, Kd.R_below HR.out HB2.out, HB.out.trans (HB2.out.mono HB.out.size)⟩

def OctSays (s : ByteArray) (w : World) (e : Ending) (w' : World) : Prop := Below w.heap.size w w' ∧ ((200000 < s.size ∧ e = .returned (.tuple #[.slice none 0 0, .int .i64 4])) ∨
  (s.size ≤ 200000 ∧ (∀ bs, s.data.toList ≠ quotes bs) ∧ e = .returned (.tuple #[.slice none 0 0, .int .i64 8])) ∨
  (s.size ≤ 200000 ∧ ∃ out : List UInt8, s.data.toList = quotes out ∧ out.length ≤ 200000 ∧ ∃ v, e = .returned (.tuple #[v, .int .i64 0]) ∧ Octs w' w.heap.size v out))

theorem quotes_inj {a b : List UInt8} (h : quotes a = quotes b) : a = b := by
  have h1 := qd_quos a []
  have h2 := qd_quos b []
  unfold quotes at h
  rw [(List.cons.inj h).2, h2] at h1
  have := Option.some.inj h1
  simpa using (Prod.mk.inj this).1.symm
theorem quo_pos (c : UInt8) : 1 ≤ (quo c).length := by
  unfold quo; split
  · simp
  · split <;> simp
theorem quotes_long (bs : List UInt8) : bs.length ≤ (quotes bs).length := by
  have : bs.length ≤ (bs.flatMap quo).length := by
    induction bs with
    | nil => simp
    | cons c cs ih => rw [List.flatMap_cons, List.length_append, List.length_cons]; have := quo_pos c; omega
  show bs.length ≤ (34 :: (bs.flatMap quo ++ [34])).length
  rw [List.length_cons, List.length_append]; omega

set_option maxHeartbeats 4000000 in
set_option maxRecDepth 100000 in
theorem octetsOf (s : ByteArray) (w : World) (hE : ErrVar w) :
    Calls Tryd.prog 15 #[.string s] w fun e w' => OctSays s w e w' := by
  by_cases hl : 200000 < s.size
  · have hd : decide (200000 < (s.size : Int)) = true := by simp; omega
    go_enter Tryd.func15, Tryd.ntmps15
    go_wp2
    go_ret2
    exact ⟨Below.refl _ _, .inl ⟨hl, rfl⟩⟩
  · have hd : decide (200000 < (s.size : Int)) = false := by simp; omega
    have hq : Calls Tryd.prog 29 #[.string s] w fun e w' => QuotedSays s w e w' := by
      by_cases h0 : 0 < s.size
      · by_cases h1 : s[0] = 34
        · exact quoted_loop s w (by omega) hE h0 h1
        · exact quoted_no s w (.inr ⟨h0, h1⟩)
      · exact quoted_no s w (.inl (by omega))
    have HQ := Aside0.mk hq
    clear hq
    go_enter Tryd.func15, Tryd.ntmps15
    go_wp2_with fail
    refine HQ.out.mono ?_
    rintro e w1 ⟨hb, v, rest, ok, rfl, hr⟩
    have HB := Aside0.mk hb
    clear hb
    rcases hr with ⟨rfl, rfl, rfl, hno⟩ | ⟨rfl, out, ho, hR, hy, hz⟩
    · have HN := Lib.hid hno
      clear hno
      go_wp2
      go_ret2
      exact ⟨HB.out, .inr (.inl ⟨by omega, HN.out, rfl⟩)⟩
    · have HR := Aside0.mk hR
      have HY := Lib.hid hy
      have HZ := Lib.hid hz
      clear hR hy hz
      by_cases h0 : rest.size = 0
      · have e0 : rest.toList.isEmpty = true := by
          rw [ByteArray.toList_eq]
          have : rest.data.toList.length = 0 := by rw [← h0]; rfl
          rw [List.length_eq_zero_iff.1 this]; rfl
        have HS := Lib.hid (HZ.out h0)
        clear h0
        go_wp2
        go_ret2
        exact ⟨HB.out, .inr (.inr ⟨by omega, out, HS.out, by omega, _, rfl, HR.out⟩)⟩
      · have e0 : rest.toList.isEmpty = false := by
          rw [ByteArray.toList_eq, Bool.eq_false_iff]
          intro e
          apply h0
          have : rest.data.toList.length = rest.size := rfl
          rw [List.isEmpty_iff.1 e] at this
          exact this.symm
        have HN := Lib.hid (show ∀ bs, s.data.toList ≠ quotes bs from fun bs e => h0 (HY.out bs e).2)
        clear h0
        go_wp2
        go_ret2
        exact ⟨HB.out, .inr (.inl ⟨by omega, HN.out, rfl⟩)⟩

/-- What 'unquote' reads are octets. -/
theorem oct_of (x : Int) (h0 : 0 ≤ x) (h1 : x < 256) : ∃ c : UInt8, (c.toNat : Int) = x := ⟨UInt8.ofNat x.toNat, by simp; omega⟩
theorem unqF_octets : ∀ (n : Nat) (t : List UInt8), (unqF n t).length ≤ t.length ∧ ∃ bs, unqF n t = ints bs
  | 0, t => by unfold unqF; exact ⟨by simp, [], rfl⟩
  | n + 1, [] => by unfold unqF; exact ⟨by simp, [], rfl⟩
  | n + 1, [c] => by unfold unqF; exact ⟨by simp, [], rfl⟩
  | n + 1, c :: d :: t => by
    unfold unqF
    obtain ⟨a1, b1, e1⟩ := unqF_octets n (d :: t)
    obtain ⟨a2, b2, e2⟩ := unqF_octets n t
    obtain ⟨a3, b3, e3⟩ := unqF_octets n (t.drop 2)
    split
    · exact ⟨by simp at a1 ⊢; omega, c :: b1, by rw [e1]; rfl⟩
    · split
      · exact ⟨by simp; omega, d :: b2, by rw [e2]; rfl⟩
      · obtain ⟨x, hx⟩ := oct_of (hexv (t.getD 0 0) (t.getD 1 0)) (by unfold hexv; omega) (by unfold hexv; omega)
        exact ⟨by simp at a3 ⊢; omega, x :: b3, by rw [e3, ← hx]; rfl⟩

set_option maxHeartbeats 4000000 in
set_option maxRecDepth 100000 in
theorem octets_bad (s : ByteArray) (w : World) (hl : s.size ≤ 200000) (hno : ∀ bs, s.data.toList ≠ quotes bs) :
    Calls Tryd.prog 14 #[.string s] w fun e w' => e = .returned (.tuple #[.slice none 0 0, .int .i64 8]) ∧ Below w.heap.size w w' := by
  have hd : decide (200000 < (s.size : Int)) = false := by simp; omega
  by_cases h0 : s.size = 0
  · have e0 : s.toList.isEmpty = true := by
      rw [ByteArray.toList_eq]
      have : s.data.toList.length = 0 := by rw [← h0]; rfl
      rw [List.length_eq_zero_iff.1 this]; rfl
    clear h0 hno
    go_enter Tryd.func14, Tryd.ntmps14
    go_wp2
    go_ret2
    exact ⟨rfl, Below.refl _ _⟩
  · have h0' : 0 < s.size := by omega
    have hl0 := str_at s 0 h0'
    rw [List.drop_zero] at hl0
    have e0 : (s.toList.isEmpty) = false := by rw [ByteArray.toList_eq, hl0]; rfl
    by_cases h1 : s[0] = 34
    · have e34 : ((s[0].toNat : Int) != 34) = false := by rw [h1]; rfl
      by_cases hqe : qEnd (s.data.toList.drop 1) 1 = (s.size : Int)
      · have HE := Lib.hid hqe
        obtain ⟨hul, bs, hbs⟩ := unqF_octets (s.data.toList.drop 1).length (s.data.toList.drop 1)
        have hun : unq (s.data.toList.drop 1) = ints bs := hbs
        have hbl : bs.length ≤ 200000 := by
          rw [hbs, ints_length, List.length_drop] at hul
          have : s.data.toList.length = s.size := rfl
          omega
        have hne : (quotes bs == s.toList) = false := by
          rw [beq_eq_false_iff_ne, ByteArray.toList_eq]; exact fun e => hno bs e.symm
        have HU := Lib.hid hun
        have HNE := Lib.hid hne
        clear hqe hun h1 hno hne hul hbs hl0
        go_enter Tryd.func14, Tryd.ntmps14
        go_wp2_with fail
        refine (quotedEnd s w (by omega)).mono ?_
        rintro e w' ⟨rfl, rfl⟩
        rw [HE.out]
        go_wp2_with fail
        refine (unquote s w (by omega)).mono ?_
        rintro e w1 ⟨v, rfl, hR, hB⟩
        rw [HU.out] at hR
        obtain ⟨A, c, rfl, hc, hC⟩ := Kd.R_reads hR
        have hlen : (ints bs).length = bs.length := ints_length bs
        have HC := Aside0.mk (Kd.reads_of_C (d := (0 : Int)) hC)
        have HL := Lib.hid hlen
        have HB := Aside0.mk hB
        clear hR hB hC hlen
        go_wp2_with fail
        refine (quote A _ c bs w1 HC.out (by rw [HL.out]; omega)).mono ?_
        rintro e w2 ⟨rfl, hB2⟩
        have HB2 := Aside0.mk hB2
        have hne := HNE.out
        clear hB2
        go_wp2
        go_ret2
        exact ⟨rfl, HB.out.trans (HB2.out.mono HB.out.size)⟩
      · have hne : ((qEnd (s.data.toList.drop 1) 1) != (s.size : Int)) = true := by rw [bne_iff_ne]; exact hqe
        have hc := quotedEnd s w (by omega)
        clear hqe hno hl0 h1
        generalize qEnd (s.data.toList.drop 1) 1 = E at hc hne
        have HC := Aside0.mk hc
        clear hc
        go_enter Tryd.func14, Tryd.ntmps14
        go_wp2_with fail
        refine HC.out.mono ?_
        rintro e w' ⟨rfl, rfl⟩
        go_wp2
        go_ret2
        exact ⟨rfl, Below.refl _ _⟩
    · have e34 : ((s[0].toNat : Int) != 34) = true := by
        rw [bne_iff_ne]; intro e; exact h1 (UInt8.toNat_inj.1 (by have : (34 : UInt8).toNat = 34 := rfl; omega))
      clear h1 hno hl0
      go_enter Tryd.func14, Tryd.ntmps14
      go_wp2
      go_ret2
      exact ⟨rfl, Below.refl _ _⟩
end Go.Proofs.YtnikkejfpnnmcaaDoor.Quo
