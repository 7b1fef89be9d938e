/- ledger.EntriesText, for every list of entries. -/
import Derived.Test.YtafolceicpkhoaaDoorEntRow
namespace Go.Proofs.YtafolceicpkhoaaDoor.Pol
set_option linter.unusedVariables false
set_option linter.unusedSimpArgs false
open Go.RowKit Go.Proofs.YtafolceicpkhoaaDoorW.PrintWords Go.Proofs.YtafolceicpkhoaaDoorW.PrintLast Go.Proofs.YtafolceicpkhoaaDoorW.PrintMore Go.Proofs.YtafolceicpkhoaaDoor.Bld

/-- What EntriesText answers. -/
def TextSays (xs : List Ent) (s : ByteArray) (er : Int) : Prop :=
  (5000 < xs.length ∧ s = ByteArray.empty ∧ er = 4) ∨
  (xs.length ≤ 5000 ∧ (∀ x ∈ xs, Right x) ∧ s = ba (textOf xs) ∧ er = 0) ∨
  (xs.length ≤ 5000 ∧ s = ByteArray.empty ∧ ∃ a x b, xs = a ++ x :: b ∧ (∀ y ∈ a, Right y) ∧ ((¬ (1 ≤ x.k ∧ x.k ≤ 11) ∧ er = 10) ∨ ((1 ≤ x.k ∧ x.k ≤ 11) ∧ (∃ n ∈ x.nums, ¬ InB n) ∧ er = 2)))
def TextPost (xs : List Ent) (w : World) (e : Ending) (w' : World) : Prop := ∃ s er, TextSays xs s er ∧ e = .returned (.tuple #[.string s, .int .i64 er]) ∧ Below w.heap.size w w'

/-- What is written of an entry after its word and j numbers. -/
def half (x : Ent) (j : Nat) : List UInt8 := ewd x.k ++ (x.nums.take j).flatMap (fun n => 32 :: Lib.itoa n)
theorem half_zero (x : Ent) : half x 0 = ewd x.k := by simp [half]
theorem half_next (x : Ent) (j : Nat) (n : Int) (h : x.nums[j]? = some n) : half x (j + 1) = half x j ++ 32 :: Lib.itoa n := by
  have hj := (List.getElem?_eq_some_iff.1 h).1
  have e := (List.getElem?_eq_some_iff.1 h).2
  unfold half
  rw [List.take_succ_eq_append_getElem hj, List.flatMap_append, e]
  simp
theorem half_five (x : Ent) : half x 5 = lineOf x := by
  simp [half, lineOf, parts6, Ent.nums, glue, List.flatMap_cons]
theorem text_next (xs : List Ent) (k : Nat) (x : Ent) (h : xs[k]? = some x) : textOf (xs.take (k + 1)) = textOf (xs.take k) ++ lineOf x ++ [10] := by
  have hk := (List.getElem?_eq_some_iff.1 h).1
  have e := (List.getElem?_eq_some_iff.1 h).2
  unfold textOf
  rw [List.take_succ_eq_append_getElem hk, e]
  simp [ended]
theorem kwords : (Lib.fields (⟨#[111, 112, 101, 110, 101, 100, 32, 115, 104, 117, 116, 32, 116, 97, 107, 101, 110, 32, 103, 105, 118, 101, 110, 32, 112, 97, 105, 100, 32, 108, 105, 109, 105, 116, 101, 100, 32, 98, 117, 100, 103, 101, 116, 101, 100, 32, 108, 101, 116, 32, 114, 101, 110, 101, 119, 101, 100, 32, 101, 110, 100, 101, 100, 32, 112, 97, 115, 115, 101, 100]⟩ : ByteArray).data.toList) = ewds := by decide +kernel
theorem kascii : ∀ b ∈ (⟨#[111, 112, 101, 110, 101, 100, 32, 115, 104, 117, 116, 32, 116, 97, 107, 101, 110, 32, 103, 105, 118, 101, 110, 32, 112, 97, 105, 100, 32, 108, 105, 109, 105, 116, 101, 100, 32, 98, 117, 100, 103, 101, 116, 101, 100, 32, 108, 101, 116, 32, 114, 101, 110, 101, 119, 101, 100, 32, 101, 110, 100, 101, 100, 32, 112, 97, 115, 115, 101, 100]⟩ : ByteArray).data.toList, b.toNat < 128 := by decide +kernel
theorem fieldsE (w : World) (hT : Tabs w) : Calls Tryd.prog 13 #[.string ⟨#[111, 112, 101, 110, 101, 100, 32, 115, 104, 117, 116, 32, 116, 97, 107, 101, 110, 32, 103, 105, 118, 101, 110, 32, 112, 97, 105, 100, 32, 108, 105, 109, 105, 116, 101, 100, 32, 98, 117, 100, 103, 101, 116, 101, 100, 32, 108, 101, 116, 32, 114, 101, 110, 101, 119, 101, 100, 32, 101, 110, 100, 101, 100, 32, 112, 97, 115, 115, 101, 100]⟩] w fun e w' => e = .returned (.slice (some ⟨w.heap.size, 0, none⟩) 11 11) ∧ w' = w.alloc (.cells (ewds.map fun l => Value.string (ba l)).toArray 9) := by
  have h := Tryd.strings_Fields_laid ⟨#[111, 112, 101, 110, 101, 100, 32, 115, 104, 117, 116, 32, 116, 97, 107, 101, 110, 32, 103, 105, 118, 101, 110, 32, 112, 97, 105, 100, 32, 108, 105, 109, 105, 116, 101, 100, 32, 98, 117, 100, 103, 101, 116, 101, 100, 32, 108, 101, 116, 32, 114, 101, 110, 101, 119, 101, 100, 32, 101, 110, 100, 101, 100, 32, 112, 97, 115, 115, 101, 100]⟩ w (by decide +kernel) (fun j b hb => kascii b (List.mem_of_getElem? hb)) hT.asp
  rw [kwords] at h
  exact h

theorem fieldsEx (w : World) (hT : Tabs w) : Calls Tryd.prog 13 #[.string ⟨#[111, 112, 101, 110, 101, 100, 32, 115, 104, 117, 116, 32, 116, 97, 107, 101, 110, 32, 103, 105, 118, 101, 110, 32, 112, 97, 105, 100, 32, 108, 105, 109, 105, 116, 101, 100, 32, 98, 117, 100, 103, 101, 116, 101, 100, 32, 108, 101, 116, 32, 114, 101, 110, 101, 119, 101, 100, 32, 101, 110, 100, 101, 100, 32, 112, 97, 115, 115, 101, 100]⟩] w fun e w' => ∃ b, e = .returned (.slice (some ⟨b, 0, none⟩) 11 11) ∧ (∀ j, j < 11 → w'.cell? ⟨b, j, none⟩ = some (.string (ba (ewds.getD j [])))) ∧ Below w.heap.size w w' := by
  refine (fieldsE w hT).mono ?_
  rintro e w' ⟨rfl, rfl⟩
  refine ⟨_, rfl, fun j hj => ?_, below_alloc (Below.refl _ _) _⟩
  rw [blk_cell (blk_new w _)]
  have key : ∀ j : Fin 11, ((ewds.map fun l => Value.string (ba l)).toArray)[j.val]? = some (.string (ba (ewds.getD j.val []))) := fun j => by
    have h : j.val < ewds.length := j.isLt
    simp [List.getElem?_map, List.getElem?_eq_getElem h, List.getD_eq_getElem?_getD]
  exact key ⟨j, hj⟩
/-- In the midst of EntriesText: the builder, and a block that is kept. -/
structure EMid (w : World) (g : Nat) (cs : List Value) (q : TypeId) (txt : List UInt8) (u : World) : Prop where
  bld : Lib.IsBuilder 40 5 w.heap.size w.heap.size (Lib.byteCells txt) u
  below : Below w.heap.size w u
  box : u.heap[g]? = some (.cells cs.toArray q (0, 0))
theorem EMid.later {w u u' : World} {g : Nat} {cs : List Value} {q : TypeId} {txt : List UInt8} (h : EMid w g cs q txt u) (hb : Below u.heap.size u u') : EMid w g cs q txt u' :=
  ⟨builder_keep h.bld hb, below_then h.below h.below.size hb, (hb.block _ (blk_in h.box)).trans h.box⟩
theorem EMid.cell {w u : World} {g : Nat} {cs : List Value} {q : TypeId} {txt : List UInt8} (h : EMid w g cs q txt u) (i : Nat) (v : Value) (hv : cs[i]? = some v) : u.cell? ⟨g, i, none⟩ = some v := by
  rw [blk_cell h.box]; simpa using hv
theorem keepE {w u u' : World} {g : Nat} {cs : List Value} {q : TypeId} {txt : List UInt8} {v : Value} (hv : cs[0]? = some v) (hb : Below u.heap.size u u') (h : u.cell? ⟨g, 0, none⟩ = some v ∧ Aside0 (EMid w g cs q txt u)) : u'.cell? ⟨g, 0, none⟩ = some v ∧ Aside0 (EMid w g cs q txt u') :=
  ⟨(h.2.out.later hb).cell 0 v hv, ⟨h.2.out.later hb⟩⟩
theorem midE {w u : World} {g : Nat} {cs : List Value} {q : TypeId} {txt : List UInt8} {v : Value} (h : u.cell? ⟨g, 0, none⟩ = some v ∧ Aside0 (EMid w g cs q txt u)) : EMid w g cs q txt u := h.2.out
theorem bytes_app (a b : List UInt8) : Lib.byteCells (a ++ b) = Lib.byteCells a ++ Lib.byteCells b := by simp [Lib.byteCells]
theorem bytes_ba (l : List UInt8) : Lib.byteCells l = Lib.strCells (ba l) := by simp [Lib.byteCells, Lib.strCells, ba]
theorem textLen (xs : List Ent) (k n : Nat) (h : ∀ x ∈ xs.take k, Right x) (hk : k ≤ 5000) : (Lib.byteCells (textOf (xs.take k))).length ≤ 305000 := by
  have h1 := text_len (xs.take k) h
  have h2 : (xs.take k).length ≤ k := List.length_take_le _ _
  simp [Lib.byteCells]; omega

set_option maxHeartbeats 16000000 in
set_option maxRecDepth 100000 in
theorem entriesText (A : Option Addr) (n c : Nat) (xs : List Ent) (w : World) (hr : Kd.C entK w A n xs) (hT : Tabs w) :
    Calls Tryd.prog 6 #[.slice A n c] w fun e w' => TextPost xs w e w' := by
  have hlen : xs.length = n := hr.1
  by_cases hl : 5000 < n
  · have hd : decide ((5000 : Int) < (n : Int)) = true := decide_eq_true (by omega)
    have HO : Aside0 (TextSays xs ByteArray.empty 4) := ⟨.inl ⟨by omega, rfl, rfl⟩⟩
    clear hr hT hlen
    go_enter Tryd.func6, Tryd.ntmps6
    go_wp2
    go_ret2
    exact ⟨_, _, HO.out, rfl, Below.refl _ _⟩
  · have hd : decide ((5000 : Int) < (n : Int)) = false := decide_eq_false (by omega)
    have HL := Lib.hid hlen
    have HR := Aside0.mk hr
    have HT := Aside0.mk hT
    have HB0 := Aside0.mk (newB w)
    have HW0 := Aside0.mk (show Below w.heap.size w (w.alloc (.cells #[.pointer none, .slice none 0 0] 40)) from below_alloc (Below.refl _ _) _)
    clear hr hT hlen
    go_enter Tryd.func6, Tryd.ntmps6
    go_wp2_with fail
    go_loopw [6, 8, 14, 32] (fun _ _ i _ wr => ∃ k : Nat, k ≤ n ∧ i = .int .i64 k ∧ Aside0 (Lib.IsBuilder 40 5 w.heap.size w.heap.size (Lib.byteCells (textOf (xs.take k))) wr) ∧ Aside0 (Below w.heap.size w wr) ∧ Hid (∀ x ∈ xs.take k, Right x)) (fun _ _ i _ _ => n - (intOf i).toNat)
    case atStart => exact ⟨0, Nat.zero_le _, rfl, HB0, HW0, Lib.hid (by simp)⟩
    case round =>
      obtain ⟨k, hk, rfl, HB, HW, HRt⟩ := hrel
      by_cases hlt : k < n
      · obtain ⟨x, hx⟩ : ∃ x, xs[k]? = some x := ⟨_, List.getElem?_eq_getElem (by rw [HL.out]; exact hlt)⟩
        obtain ⟨ad, rfl, c0, hc⟩ := entAt (Kd.C_below HR.out HW.out) k x hx
        have c1 := hc 1 _ rfl
        have c2 := hc 2 _ rfl
        have c3 := hc 3 _ rfl
        have c4 := hc 4 _ rfl
        have c5 := hc 5 _ rfl
        have HX := Lib.hid hx
        clear hc hx
        have hxk : xs.take k ++ x :: xs.drop (k + 1) = xs := by
          have e := (List.getElem?_eq_some_iff.1 HX.out).2
          rw [← e, ← List.drop_eq_getElem_cons, List.take_append_drop]
        have HXK := Lib.hid hxk
        clear hxk
        by_cases hkd : 1 ≤ x.k ∧ x.k ≤ 11
        · have hKd := Lib.hid hkd
          have hkb : decide (1 ≤ x.k ∧ x.k ≤ 11) = true := decide_eq_true hkd
          obtain ⟨g1, g2⟩ := hkd
          go_wp2_with fail
          refine (within x.k 1 11 _).mono ?_
          rintro e w2 ⟨rfl, rfl⟩
          rw [hkb]
          obtain ⟨j, hj, hxj⟩ : ∃ j : Nat, j < 11 ∧ x.k = (j : Int) + 1 := ⟨(x.k - 1).toNat, by omega, by omega⟩
          have hM : EMid w wr.heap.size [.int .i64 ((j : Int) + 1), .int .i64 x.o, .int .i64 x.t, .int .i64 x.a, .int .i64 x.l, .int .i64 x.u] 31 (textOf (xs.take k)) (wr.alloc (.cells #[.int .i64 ((j : Int) + 1), .int .i64 x.o, .int .i64 x.t, .int .i64 x.a, .int .i64 x.l, .int .i64 x.u] 31)) :=
            ⟨builder_keep HB.out (below_alloc (Below.refl _ _) _), below_alloc HW.out _, blk_new wr _⟩
          obtain ⟨wj, hwj⟩ : ∃ wj, wj = ewds.getD j [] := ⟨_, rfl⟩
          have hew : ewd x.k = wj := by unfold ewd; rw [hxj, hwj]; simp
          have hel : wj.length ≤ 8 := by rw [hwj]; exact (ewd_fin ⟨j, hj⟩).2.1
          have HWJ := Lib.hid hwj
          rw [hxj]
          have hM0 := hM.cell 0 _ rfl
          have HM := Aside0.mk hM
          have HEW := Lib.hid hew
          have HXJ := Lib.hid hxj
          have hS0 : (wr.alloc (.cells #[.int .i64 ((j : Int) + 1), .int .i64 x.o, .int .i64 x.t, .int .i64 x.a, .int .i64 x.l, .int .i64 x.u] 31)).heap.size = wr.heap.size + 1 := by simp
          have hgB : w.heap.size < wr.heap.size := by
            have := (HB.out); rcases this with h | h <;> exact h.lt
          clear hwj hM hew hxj c0 c1 c2 c3 c4 c5 hS0 g1 g2 hkb
          generalize (wr.alloc (.cells #[.int .i64 ((j : Int) + 1), .int .i64 x.o, .int .i64 x.t, .int .i64 x.a, .int .i64 x.l, .int .i64 x.u] 31)) = W1 at *
          generalize wr.heap.size = g at *
          go_wp2_with fail
          go_cut [28] (fun z9 wx => Aside0 (EMid w g [.int .i64 ((j : Int) + 1), .int .i64 x.o, .int .i64 x.t, .int .i64 x.a, .int .i64 x.l, .int .i64 x.u] 31 (textOf (xs.take k) ++ half x 0) wx))
          case first =>
            have hw2 : IntKind.i64.wrap (j : Int) = (j : Int) := IntWalk.i64_in _ (by omega)
            have hj0 : (0 : Int) ≤ (j : Int) := by omega
            have hj1 : (j : Int) < 11 := by omega
            have HLN := Lib.hid (textLen xs k n HRt.out (by omega))
            have HEL := Lib.hid hel
            clear hel
            have HMa := Aside0.mk (HM.out.later (below_drew (Below.refl _ _)))
            go_region_with ((first | (go_at_call 13; refine (fieldsEx _ (HT.out.below HMa.out.below)).mono ?_; rintro e u' ⟨bF, rfl, hF, hbF⟩; have HMb := Aside0.mk (HMa.out.later hbF); have hK9 := HMb.out.cell 0 _ rfl; have hF9 := hF j hj; rw [← HWJ.out] at hF9; clear hF hbF) | (go_at_call 12; refine (writeStringK w.heap.size w.heap.size _ _ _ HMb.out.bld (by rw [ba_size]; have := HEL.out; have := HLN.out; omega) HMb.out.below.size).mono ?_; rintro e u3 ⟨rfl, hB3, hb3, hk3⟩; have HM3 := Aside0.mk (show EMid w g [.int .i64 ((j : Int) + 1), .int .i64 x.o, .int .i64 x.t, .int .i64 x.a, .int .i64 x.l, .int .i64 x.u] 31 (textOf (xs.take k) ++ half x 0) u3 from ⟨.inr (by rw [half_zero, HEW.out, bytes_app, bytes_ba]; exact hB3), HMb.out.below.trans hb3, (hk3 _ _ _ HMb.out.box (by decide) (by omega)).trans HMb.out.box⟩); clear hB3 hb3 hk3)))
            all_goals
              go_wp2_with fail
              go_meet
              exact HM3
          case rest =>
            have HM3 := hcut
            have b0 := HM3.out.cell 0 _ rfl
            have b1 := HM3.out.cell 1 _ rfl
            have b2 := HM3.out.cell 2 _ rfl
            have b3 := HM3.out.cell 3 _ rfl
            have b4 := HM3.out.cell 4 _ rfl
            have b5 := HM3.out.cell 5 _ rfl
            have HLN := Lib.hid (textLen xs k n HRt.out (by omega))
            clear hcut
            go_wp2_with fail
            refine (numbersOf _ _ _ _ _ _ _).mono ?_
            rintro e w4 ⟨gN, rfl, hgN, hN, hb4⟩
            have HM4 : Aside0 (EMid w gN ([x.o, x.t, x.a, x.l, x.u].map (Value.int .i64)) 3 (textOf (xs.take k) ++ half x 0) w4) := ⟨builder_keep HM3.out.bld hb4, below_then HM3.out.below HM3.out.below.size hb4, hN⟩
            have hgw : w.heap.size < gN := by have := blk_in HM3.out.box; have := HM3.out.below.size; omega
            clear b0 b1 b2 b3 b4 b5 hN hb4 hgN
            go_wp2_with fail
            go_loopw [8, 32] (fun _ i2 ws => ∃ q : Nat, q ≤ 5 ∧ i2 = .int .i64 q ∧ Aside0 (EMid w gN ([x.o, x.t, x.a, x.l, x.u].map (Value.int .i64)) 3 (textOf (xs.take k) ++ half x q) ws) ∧ Hid (∀ m ∈ x.nums.take q, InB m)) (fun _ i2 _ => 5 - (intOf i2).toNat)
            case atStart => exact ⟨0, by omega, rfl, HM4, Lib.hid (by simp)⟩
            case round =>
              obtain ⟨q, hq, rfl, HMq, HIq⟩ := hrel
              have hhalf : (half x q).length ≤ 5000 := by
                have h1 : (x.nums.take q).length ≤ 5 := by have := List.length_take_le q x.nums; omega
                have h2 : ∀ l : List Int, (∀ m ∈ l, InB m) → (l.flatMap (fun n => 32 :: Lib.itoa n)).length ≤ 9 * l.length := by
                  intro l
                  induction l with
                  | nil => simp
                  | cons m l ih =>
                    intro hm
                    have h3 := (can_inB m (hm m (by simp))).2.1
                    have h4 := ih (fun y hy => hm y (by simp [hy]))
                    simp only [List.flatMap_cons, List.length_append, List.length_cons]; omega
                have h3 := h2 _ HIq.out
                have h4 := (ewd_of x.k hKd.out.1 hKd.out.2).2.1
                unfold half
                rw [List.length_append]; omega
              have HHL := Lib.hid hhalf
              clear hhalf
              by_cases hq5 : q < 5
              · obtain ⟨m, hm⟩ : ∃ m, x.nums[q]? = some m := ⟨_, List.getElem?_eq_getElem (by show q < 5; exact hq5)⟩
                have hcq := HMq.out.cell q (.int .i64 m) (by rw [List.getElem?_map]; have : ([x.o, x.t, x.a, x.l, x.u] : List Int)[q]? = some m := hm; rw [this]; rfl)
                have hmem : m ∈ x.nums := List.mem_of_getElem? hm
                by_cases hmb : 0 ≤ m ∧ m ≤ 10000000
                · have hin : InB m := hmb
                  have hbb : decide (0 ≤ m ∧ m ≤ 10000000) = true := decide_eq_true hmb
                  have hlm := (can_inB m hin).2.1
                  have HIN : Hid (∀ y ∈ x.nums.take (q + 1), InB y) := Lib.hid (by
                    intro y hy
                    rw [List.take_succ_eq_append_getElem (by show q < 5; exact hq5)] at hy
                    rcases List.mem_append.1 hy with hy | hy
                    · exact HIq.out y hy
                    · have e : y = x.nums[q]'(by show q < 5; exact hq5) := by simpa using hy
                      have e2 := (List.getElem?_eq_some_iff.1 hm).2
                      rw [e, e2]; exact hin)
                  have HNX := Lib.hid (half_next x q m hm)
                  have HLM := Lib.hid hlm
                  have m1 := hmb.1
                  have m2 := hmb.2
                  clear hm hmem hlm hin hmb
                  go_wp2_with fail
                  refine (within m 0 10000000 _).mono ?_
                  rintro e w5 ⟨rfl, rfl⟩
                  rw [hbb]
                  clear hbb
                  go_wp2_with fail
                  refine (itoaAny m (by omega) (by omega) _ (HT.out.below HMq.out.below)).mono ?_
                  rintro e w6 ⟨rfl, hb6⟩
                  have HM6 := Aside0.mk (HMq.out.later hb6)
                  have HSZ := Lib.hid (show (itB m).size ≤ 8 by have := HLM.out; simpa [itB, ByteArray.size] using this)
                  have hsz : ¬ 9223372036854775807 < 1 + (itB m).size := by have := HSZ.out; omega
                  clear hb6 hcq
                  go_wp2_with fail
                  refine (writeStringK w.heap.size w.heap.size _ _ _ HM6.out.bld (by have := HLN.out; have := HHL.out; have := HSZ.out; rw [bytes_app, List.length_append, ByteArray.size_append]; have : (⟨#[32]⟩ : ByteArray).size = 1 := rfl; simp [Lib.byteCells] at *; omega) HM6.out.below.size).mono ?_
                  rintro e w7 ⟨rfl, hB7, hb7, hk7⟩
                  have HM7 : Aside0 (EMid w gN ([x.o, x.t, x.a, x.l, x.u].map (Value.int .i64)) 3 (textOf (xs.take k) ++ half x (q + 1)) w7) := ⟨by
                    refine ⟨.inr ?_, HM6.out.below.trans hb7, (hk7 _ _ _ HM6.out.box (by decide) (by omega)).trans HM6.out.box⟩
                    have e : Lib.byteCells (textOf (xs.take k) ++ half x (q + 1)) = Lib.byteCells (textOf (xs.take k) ++ half x q) ++ Lib.strCells ({ data := #[32] } ++ itB m) := by
                      rw [HNX.out, ← List.append_assoc, bytes_app]
                      first | rfl | (congr 1; simp [Lib.byteCells, Lib.strCells, itB, ByteArray.data_append])
                    rw [e]; exact hB7⟩
                  clear hB7 hb7 hk7
                  go_wp2
                  go_roundw
                  case rel => exact ⟨q + 1, by omega, by go_num, HM7, HIN⟩
                  case measure => simp [intOf]; omega
                · have hbb : decide (0 ≤ m ∧ m ≤ 10000000) = false := decide_eq_false hmb
                  have HO : Aside0 (TextSays xs ByteArray.empty 2) := ⟨.inr (.inr ⟨by rw [HL.out]; omega, rfl, _, x, _, HXK.out.symm, HRt.out, .inr ⟨hKd.out, ⟨m, hmem, hmb⟩, rfl⟩⟩)⟩
                  clear hmb hm hmem
                  go_wp2_with fail
                  refine (within m 0 10000000 _).mono ?_
                  rintro e w5 ⟨rfl, rfl⟩
                  rw [hbb]
                  go_wp2
                  go_ret2
                  exact ⟨_, _, HO.out, rfl, HMq.out.below⟩
              · obtain rfl : q = 5 := by omega
                go_wp2_with fail
                refine (writeByteK w.heap.size w.heap.size _ 10 _ HMq.out.bld (by rw [bytes_app, List.length_append]; have := HLN.out; have := HHL.out; simp [Lib.byteCells] at *; omega) HMq.out.below.size).mono ?_
                rintro e w7 ⟨rfl, hB7, hb7, _⟩
                have htx := text_next xs k x HX.out
                have hB8 : Lib.IsBuilder 40 5 w.heap.size w.heap.size (Lib.byteCells (textOf (xs.take (k + 1)))) w7 := by
                  refine .inr ?_
                  rw [htx, ← half_five, bytes_app]
                  exact hB7
                have hRn : ∀ y ∈ xs.take (k + 1), Right y := by
                  intro y hy
                  have hk' := (List.getElem?_eq_some_iff.1 HX.out).1
                  rw [List.take_succ_eq_append_getElem hk'] at hy
                  rcases List.mem_append.1 hy with hy | hy
                  · exact HRt.out y hy
                  · have e : y = xs[k] := by simpa using hy
                    have e2 := (List.getElem?_eq_some_iff.1 HX.out).2
                    rw [e, e2]
                    exact ⟨hKd.out.1, hKd.out.2, fun y hy => HIq.out y (by rw [List.take_of_length_le (by show 5 ≤ 5; omega)]; exact hy)⟩
                have HB8 := Aside0.mk hB8
                have HRn := Lib.hid hRn
                have HW8 := Aside0.mk (HMq.out.below.trans hb7)
                clear hB7 hb7 htx hB8 hRn
                go_wp2
                go_roundw
                case rel => exact ⟨k + 1, by omega, by go_num, HB8, HW8, HRn⟩
                case measure => simp [intOf]; omega
        · have hkb : decide (1 ≤ x.k ∧ x.k ≤ 11) = false := decide_eq_false hkd
          have HO : Aside0 (TextSays xs ByteArray.empty 10) := ⟨.inr (.inr ⟨by rw [HL.out]; omega, rfl, _, x, _, HXK.out.symm, HRt.out, .inl ⟨hkd, rfl⟩⟩)⟩
          clear hkd
          go_wp2_with fail
          refine (within x.k 1 11 _).mono ?_
          rintro e w2 ⟨rfl, rfl⟩
          go_wp2
          go_ret2
          exact ⟨_, _, HO.out, rfl, below_alloc HW.out _⟩
      · have hkn : n ≤ k := by omega
        have htk : xs.take k = xs := List.take_of_length_le (by rw [HL.out]; exact hkn)
        rw [htk] at HB HRt
        have HO : Aside0 (TextSays xs (ba (textOf xs)) 0) := ⟨.inr (.inl ⟨by rw [HL.out]; omega, HRt.out, rfl, rfl⟩)⟩
        clear htk
        go_wp2_with fail
        refine (stringK w.heap.size w.heap.size (textOf xs) _ HB.out HW.out.size).mono ?_
        rintro e w3 ⟨rfl, hb⟩
        go_wp2
        go_ret2
        exact ⟨_, _, HO.out, rfl, HW.out.trans hb⟩
end Go.Proofs.YtafolceicpkhoaaDoor.Pol
