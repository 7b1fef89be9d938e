/- cornref1.ReadEntriesOf, at every string. -/
import Derived.Test.YtafolceicpkhoaaDoorReadEnts
import Derived.Test.YtafolceicpkhoaaDoorDigitsL
namespace Go.Proofs.YtafolceicpkhoaaDoor.Pol
set_option linter.unusedVariables false
set_option linter.unusedSimpArgs false
open Go.RowKit Go.Proofs.YtafolceicpkhoaaDoorW.PrintWords Go.Proofs.YtafolceicpkhoaaDoorW.PrintLast Go.Proofs.YtafolceicpkhoaaDoorW.PrintMore Go.Proofs.YtafolceicpkhoaaDoor.Bld

/-- What the reference's words hold. -/
def Words12 (w : World) : Prop := ∃ b o c, w.cell? ⟨0, 0, none⟩ = some (.slice (some ⟨b, o, none⟩) 12 c) ∧ b < w.heap.size ∧ ∀ (j : Nat) (x : ByteArray), (ByteArray.empty :: elevens)[j]? = some x → w.cell? ⟨b, o + j, none⟩ = some (.string x)
theorem Words12.below {w w' : World} (h : Words12 w) (hb : Below w.heap.size w w') : Words12 w' := by
  obtain ⟨b, o, c, h1, h2, h3⟩ := h
  refine ⟨b, o, c, cell_stays h1 hb, Nat.lt_of_lt_of_le h2 hb.size, fun j x hx => ?_⟩
  rw [← h3 j x hx]; exact hb.cell (p := ⟨b, o + j, none⟩) h2
theorem index12 (a : ByteArray) (k6 : Int) (hK : Lib.idxOfS (ByteArray.empty :: elevens) a = k6) (b o c : Nat) (w : World) (hc : ∀ (j : Nat) (x : ByteArray), (ByteArray.empty :: elevens)[j]? = some x → w.cell? ⟨b, o + j, none⟩ = some (.string x)) : Calls Tryd.prog 23 #[.slice (some ⟨b, o, none⟩) 12 c, .string a] w fun e w' => e = .returned (.int .i64 k6) ∧ w' = w := by
  have h := Tryd.slices_Index_string b o 12 c (ByteArray.empty :: elevens) a w (by decide) (by omega) (fun i hi => by
    refine hc i _ ?_
    rw [List.getD_eq_getElem?_getD, List.getElem?_eq_getElem hi]; rfl)
  have e : (ByteArray.empty :: elevens).take 12 = ByteArray.empty :: elevens := rfl
  rw [e, hK] at h
  exact h
theorem cut_hit (l r : List UInt8) (h : ∀ b ∈ l, b ≠ 10) : Lib.cut (l ++ 10 :: r) [10] = (l, r, true) := by
  have hi : Lib.index (l ++ 10 :: r) [10] = (l.length : Int) := by rw [Lib.index_one, indexByte_atc 10 l r h]
  unfold Lib.cut
  rw [hi, if_pos (by omega)]
  simp
theorem cut_miss (l : List UInt8) (h : ∀ b ∈ l, b ≠ 10) : Lib.cut l [10] = (l, [], false) := by
  have hi : Lib.index l [10] = -1 := by rw [Lib.index_one, indexByte_missc 10 l h]
  unfold Lib.cut
  rw [hi, if_neg (by omega)]
theorem cutW (s : ByteArray) (a r : List UInt8) (f : Bool) (hc : Lib.cut s.data.toList [10] = (a, r, f)) (hs : s.size ≤ 500000) (w : World) (hM : MaxL w) : Calls Tryd.prog 22 #[.string s, .string ⟨#[10]⟩] w fun e w' => e = .returned (.tuple #[.string (ba a), .string (ba r), .bool f]) ∧ Below w.heap.size w w' := by
  obtain ⟨m, hm⟩ := hM
  refine (Tryd.strings_Cut s ⟨#[10]⟩ m w (by omega) hm).mono ?_
  rintro e w' ⟨rfl, n, rfl⟩
  have e10 : (⟨#[10]⟩ : ByteArray).data.toList = [10] := rfl
  rw [e10, hc]
  exact ⟨rfl, pw_below_drewN (Below.refl _ _) _⟩
def slen : Value → Nat
  | .string b => b.size
  | _ => 0
theorem ended_drop (ls : List (List UInt8)) (k : Nat) (l : List UInt8) (h : ls[k]? = some l) : ended (ls.drop k) = l ++ 10 :: ended (ls.drop (k + 1)) := by
  have hk := (List.getElem?_eq_some_iff.1 h).1
  have e := (List.getElem?_eq_some_iff.1 h).2
  rw [List.drop_eq_getElem_cons hk, ended_cons, e]

/-- In the midst of a round: the pieces' block, the entry's, the pointers'. -/
structure QMid (W0 : World) (gP : Nat) (P : List ByteArray) (g : Nat) (cs : Array Value) (u : World) : Prop where
  below : Below W0.heap.size W0 u
  list : u.heap[gP]? = some (.cells (P.map Value.string).toArray 9 (0, 0))
  box : u.heap[g]? = some (.cells cs 31 (0, 0))
  ptr : u.heap[g + 1]? = some (.cells #[.pointer (some ⟨g, 1, none⟩), .pointer (some ⟨g, 2, none⟩), .pointer (some ⟨g, 3, none⟩), .pointer (some ⟨g, 4, none⟩), .pointer (some ⟨g, 5, none⟩)] 62 (0, 0))
theorem QMid.later {W0 u u' : World} {gP g : Nat} {P : List ByteArray} {cs : Array Value} (h : QMid W0 gP P g cs u) (hb : Below u.heap.size u u') : QMid W0 gP P g cs u' :=
  ⟨below_then h.below h.below.size hb, (hb.block _ (blk_in h.list)).trans h.list, (hb.block _ (blk_in h.box)).trans h.box, (hb.block _ (blk_in h.ptr)).trans h.ptr⟩
theorem QMid.put {W0 u : World} {gP g : Nat} {P : List ByteArray} {cs : Array Value} (h : QMid W0 gP P g cs u) (hg : W0.heap.size ≤ g) (hne : gP ≠ g) (i : Nat) (v : Value) : QMid W0 gP P g (cs.setIfInBounds i v) (u.setCell ⟨g, i, none⟩ v) :=
  ⟨h.below.setCell (p := ⟨g, i, none⟩) hg v, (Below.heap_setCell u ⟨g, i, none⟩ v _ hne).trans h.list, blk_set h.box i v, (Below.heap_setCell u ⟨g, i, none⟩ v _ (by show g + 1 ≠ g; omega)).trans h.ptr⟩
theorem QMid.piece {W0 u : World} {gP g : Nat} {P : List ByteArray} {cs : Array Value} (h : QMid W0 gP P g cs u) (j : Nat) (x : ByteArray) (hx : P[j]? = some x) : u.cell? ⟨gP, j, none⟩ = some (.string x) := by
  rw [blk_cell h.list, List.getElem?_toArray, List.getElem?_map, hx]; rfl
/-- The entry's cells with the first q numbers written. -/
def part (K : Int) (vs : List Int) : Array Value := #[.int .i64 K, .int .i64 (vs.getD 0 0), .int .i64 (vs.getD 1 0), .int .i64 (vs.getD 2 0), .int .i64 (vs.getD 3 0), .int .i64 (vs.getD 4 0)]
theorem part_set (K : Int) (vs : List Int) (q : Nat) (hq : q < 5) (hv : vs.length = q) (m : Int) : (part K vs).setIfInBounds (q + 1) (.int .i64 m) = part K (vs ++ [m]) := by
  have : q = 0 ∨ q = 1 ∨ q = 2 ∨ q = 3 ∨ q = 4 := by omega
  rcases this with rfl | rfl | rfl | rfl | rfl
  · obtain rfl : vs = [] := List.length_eq_zero_iff.1 hv
    rfl
  · match vs, hv with | [a], _ => rfl
  · match vs, hv with | [a, b], _ => rfl
  · match vs, hv with | [a, b, c], _ => rfl
  · match vs, hv with | [a, b, c, d], _ => rfl
theorem part_zero (K : Int) (vs : List Int) (q : Nat) (hq : q < 5) (hv : vs.length = q) : (part K vs)[q + 1]? = some (.int .i64 0) := by
  have : q = 0 ∨ q = 1 ∨ q = 2 ∨ q = 3 ∨ q = 4 := by omega
  rcases this with rfl | rfl | rfl | rfl | rfl
  · obtain rfl : vs = [] := List.length_eq_zero_iff.1 hv
    rfl
  · match vs, hv with | [a], _ => rfl
  · match vs, hv with | [a, b], _ => rfl
  · match vs, hv with | [a, b, c], _ => rfl
  · match vs, hv with | [a, b, c, d], _ => rfl
theorem ptr_at {W0 u : World} {gP g : Nat} {P : List ByteArray} {cs : Array Value} (h : QMid W0 gP P g cs u) (q : Nat) (hq : q < 5) : u.cell? ⟨g + 1, q, none⟩ = some (.pointer (some ⟨g, q + 1, none⟩)) := by
  rw [blk_cell h.ptr]
  have : q = 0 ∨ q = 1 ∨ q = 2 ∨ q = 3 ∨ q = 4 := by omega
  rcases this with rfl | rfl | rfl | rfl | rfl <;> rfl

set_option maxHeartbeats 64000000 in
set_option maxRecDepth 100000 in
theorem readEntriesOf (s : ByteArray) (ls : List (List UInt8)) (rem : List UInt8) (hI : TextIs s ls rem) (w : World) (hE : Errs w) (hM : MaxL w) (hW : Words12 w) :
    Calls Tryd.prog 9 #[.string s] w fun e w' => REPost s ls rem w e w' := by
  have hcn := hI.count
  by_cases hbig : Big s ls
  · have HO : Aside0 (RE (Big s ls) ls rem [] 4) := ⟨.inl ⟨hbig, rfl, rfl⟩⟩
    have HCW := Aside0.mk (countW s w)
    by_cases h1 : 500000 < s.size
    · have hd2 : decide ((500000 : Int) < (s.size : Int)) = true := decide_eq_true (by omega)
      clear hI hE hM hcn hbig h1 hW
      go_enter Tryd.func9, Tryd.ntmps9
      go_wp2
      go_ret2
      exact ⟨[], 4, none, 0, HO.out, rfl, Kd.C_nil _ _, by simp, Below.refl _ _⟩
    · have hd2 : decide ((500000 : Int) < (s.size : Int)) = false := decide_eq_false (by omega)
      have hd : decide ((5000 : Int) < ((s.data.toList.count 10 : Nat) : Int)) = true := decide_eq_true (by
        rw [hcn]
        rcases hbig with h2 | h2
        · exact absurd h2 h1
        · omega)
      generalize s.data.toList.count 10 = cnt at *
      clear hI hE hM hcn hbig h1 hW
      go_enter Tryd.func9, Tryd.ntmps9
      go_wp2_with fail
      refine HCW.out.mono ?_
      rintro e w1 ⟨rfl, rfl⟩
      go_wp2
      go_ret2
      exact ⟨[], 4, none, 0, HO.out, rfl, Kd.C_nil _ _, by simp, Below.refl _ _⟩
  · have hb1 : ¬ 500000 < s.size := fun h => hbig (.inl h)
    have hb2 : ¬ 5000 < ls.length := fun h => hbig (.inr h)
    have hd : decide ((5000 : Int) < ((s.data.toList.count 10 : Nat) : Int)) = false := decide_eq_false (by rw [hcn]; omega)
    have hd2 : decide ((500000 : Int) < (s.size : Int)) = false := decide_eq_false (by omega)
    have HCW := Aside0.mk (countW s w)
    have hlz : s.data.toList.length = s.size := rfl
    have hst : s = ba (ended (ls.drop 0) ++ rem) := by rw [List.drop_zero, ← hI.eq, ba_of]
    have hsz : ∀ k, (ended (ls.drop k) ++ rem).length ≤ 500000 := by
      intro k
      have h1 : (ended (ls.drop 0) ++ rem).length ≤ 500000 := by rw [List.drop_zero, ← hI.eq]; omega
      induction k with
      | zero => exact h1
      | succ k ih =>
        by_cases hk : k < ls.length
        · rw [ended_drop ls k _ (List.getElem?_eq_getElem hk)] at ih
          simp only [List.length_append, List.length_cons] at ih ⊢
          omega
        · rw [List.drop_of_length_le (by omega)] at ih ⊢
          exact ih
    have HST := Lib.hid hst
    have HSZ := Lib.hid hsz
    have HLI := Lib.hid hI.lines
    have HRI := Lib.hid hI.rest
    have HBG := Lib.hid hbig
    have HE := Aside0.mk hE
    have HM := Aside0.mk hM
    have HW := Aside0.mk hW
    generalize s.data.toList.count 10 = cnt at *
    clear hI hE hM hcn hbig hW hlz hst hsz
    go_enter Tryd.func9, Tryd.ntmps9
    go_wp2_with fail
    refine HCW.out.mono ?_
    rintro e w1 ⟨rfl, rfl⟩
    go_wp2_with fail
    go_loopw [0, 4, 5, 6, 7, 8, 9, 10, 11, 12, 13, 14, 60] (fun s0 v _ _ _ _ _ _ _ _ _ _ _ wr => ∃ (k : Nat) (xs : List Ent), k ≤ ls.length ∧ Hid (s0 = .string (ba (ended (ls.drop k) ++ rem))) ∧ Hid (xs.length = k ∧ LinesAre (ls.take k) xs) ∧ Aside0 (Below w.heap.size w wr) ∧ Aside0 (Kd.R entK 31 wr w.heap.size (fun _ => True) v xs)) (fun s0 _ _ _ _ _ _ _ _ _ _ _ _ _ => slen s0)
    case atStart => exact ⟨0, [], by omega, Lib.hid (by rw [← HST.out]), Lib.hid ⟨rfl, trivial⟩, ⟨Below.refl _ _⟩, ⟨Kd.R_nil _ _ _ _ _⟩⟩
    case round =>
      obtain ⟨k, xs, hk, HS0, HV0, HB, HR⟩ := hrel
      have HV := Lib.hid HV0.out.1
      have HLA := Lib.hid HV0.out.2
      have hu0 := HS0.out
      subst hu0
      clear HV0 HS0
      by_cases hkl : k < ls.length
      · obtain ⟨l, hl⟩ : ∃ l, ls[k]? = some l := ⟨_, List.getElem?_eq_getElem hkl⟩
        have eL : ended (ls.drop k) ++ rem = l ++ 10 :: (ended (ls.drop (k + 1)) ++ rem) := by rw [ended_drop ls k l hl]; simp
        have hz1 := HSZ.out k
        rw [eL] at hz1 ⊢
        have hln : ∀ b ∈ l, b ≠ 10 := HLI.out l (List.mem_of_getElem? hl)
        have hcut : Lib.cut (ba (l ++ 10 :: (ended (ls.drop (k + 1)) ++ rem))).data.toList [10] = (l, ended (ls.drop (k + 1)) ++ rem, true) := by rw [ba_list]; exact cut_hit _ _ hln
        have hse : (ba (l ++ 10 :: (ended (ls.drop (k + 1)) ++ rem))).toList.isEmpty = false := by
          rw [ByteArray.toList_eq, ba_list, Bool.eq_false_iff]
          intro e
          have := List.isEmpty_iff.1 e
          simp at this
        have hss : (ba (l ++ 10 :: (ended (ls.drop (k + 1)) ++ rem))).size ≤ 500000 := by rw [ba_size]; exact hz1
        have hlt2 : (ended (ls.drop (k + 1)) ++ rem).length < (ba (l ++ 10 :: (ended (ls.drop (k + 1)) ++ rem))).size := by rw [ba_size]; simp only [List.length_append, List.length_cons]; omega
        have hlsz : (ba l).size ≤ 500000 := by rw [ba_size]; simp only [List.length_append, List.length_cons] at hz1; omega
        obtain ⟨hPs, hPl, hPc⟩ := pieces_facts 32 (ba l) hlsz
        have hsp := splitW 32 (ba l) hlsz (piecesOf l) rfl
        have hPs' : ∀ x ∈ piecesOf l, x.size ≤ 500000 := fun x hx => by have := hPs x hx; omega
        have hPl' : 1 ≤ (piecesOf l).length := by show 1 ≤ (Lib.splitB ⟨#[32]⟩ 0 (Lib.countB (ba l) ⟨#[32]⟩) (ba l)).length; omega
        have hPm' : (piecesOf l).length ≤ 500001 := by show (Lib.splitB ⟨#[32]⟩ 0 (Lib.countB (ba l) ⟨#[32]⟩) (ba l)).length ≤ 500001; omega
        have hLine : ∀ y, LineIs l y → ∃ a p0 p1 p2 p3 p4, piecesOf l = [a, p0, p1, p2, p3, p4] ∧ Lib.idxOfS elevens a = y.k - 1 ∧ 1 ≤ y.k ∧ Can p0.data.toList y.o ∧ Can p1.data.toList y.t ∧ Can p2.data.toList y.a ∧ Can p3.data.toList y.l ∧ Can p4.data.toList y.u := fun y h => h
        have hLine2 : ∀ a p0 p1 p2 p3 p4 (y : Ent), piecesOf l = [a, p0, p1, p2, p3, p4] → Lib.idxOfS elevens a = y.k - 1 → 1 ≤ y.k → Can p0.data.toList y.o → Can p1.data.toList y.t → Can p2.data.toList y.a → Can p3.data.toList y.l → Can p4.data.toList y.u → LineIs l y := fun a p0 p1 p2 p3 p4 y h1 h2 h3 h4 h5 h6 h7 h8 => ⟨a, p0, p1, p2, p3, p4, h1, h2, h3, h4, h5, h6, h7, h8⟩
        have hbadOf : (∀ y, ¬ LineIs l y) → ∀ ys, ¬ LinesAre ls ys := fun h ys hy => by
          obtain ⟨y, hy2⟩ := linesAre_at hy hl
          exact h y hy2
        generalize piecesOf l = P at *
        obtain ⟨a, L, rfl⟩ : ∃ a L, P = a :: L := by
          cases P with
          | nil => simp at hPl'
          | cons a L => exact ⟨a, L, rfl⟩
        obtain ⟨K, hK0, hK11, hK, hK6⟩ := kinds11 a
        generalize hk6 : Lib.idxOfS (ByteArray.empty :: elevens) a = k6 at hK6
        have HI := Lib.hid (index12 a k6 hk6)
        have HK6 := Lib.hid hK6
        have HK := Lib.hid hK
        have HCUT := Lib.hid hcut
        have HPs := Lib.hid hPs'
        have HSp := Lib.hid hsp
        have HL1 := Lib.hid hLine
        have HL2 := Lib.hid hLine2
        have HBO := Lib.hid hbadOf
        have HLk := Lib.hid hl
        have HLT := Lib.hid hlt2
        generalize hR : ended (ls.drop (k + 1)) ++ rem = R at *
        have HR0 := Lib.hid hR
        generalize ba (l ++ 10 :: R) = S at *
        clear hR hl eL hz1 hln hcut hPs hPl hPc hsp hPs' hLine hLine2 hbadOf hK hk6 hK6 hlt2 hPl'
        go_wp2_with fail
        refine (cutW S l R true HCUT.out hss _ (HM.out.below HB.out)).mono ?_
        rintro e w2 ⟨rfl, hb2⟩
        have HB2 := Aside0.mk (below_then HB.out HB.out.size hb2)
        have HQ2 := Aside0.mk hb2
        clear hb2
        go_wp2_with fail
        refine (HSp.out _ (HM.out.below HB2.out)).mono ?_
        rintro e w3 ⟨rfl, hw3⟩
        have hlb : w3.heap[w2.heap.size]? = some (.cells ((a :: L).map Value.string).toArray 9 (0, 0)) := by rw [hw3]; exact blk_new w2 _
        have hq3 : Below wr.heap.size wr w3 := by rw [hw3]; exact below_alloc HQ2.out _
        have hgp : wr.heap.size ≤ w2.heap.size := HQ2.out.size
        clear hw3
        generalize w2.heap.size = gP at *
        generalize hn : (a :: L).length = n at *
        have hn1 : 0 < n := by rw [← hn]; simp
        have hn2 : (0 : Int) < (n : Int) := by omega
        have HN := Lib.hid hn
        have HLB := Aside0.mk hlb
        have HQ3 := Aside0.mk hq3
        have hc0 : w3.cell? ⟨gP, 0, none⟩ = some (.string a) := by rw [blk_cell hlb]; rfl
        obtain ⟨b6, o6, c6, hg6, hb6, hcells6⟩ := HW.out.below (below_then HB.out HB.out.size hq3)
        have HC6 := Lib.hid hcells6
        clear hn hlb hq3 hcells6
        go_wp2_with fail
        go_quiet ((go_at_call 23; exact Calls.quiet_of_same (HI.out _ _ _ _ HC6.out)))
        have HQ4 := Aside0.mk (pw_below_drewN HQ3.out nq)
        have HLB4 : Aside0 ((w3.drewN nq).heap[gP]? = some (.cells ((a :: L).map Value.string).toArray 9 (0, 0))) := ⟨HLB.out⟩
        have hgp2 : gP < (w3.drewN nq).heap.size := blk_in HLB4.out
        generalize w3.drewN nq = wq at *
        clear hc0 hg6 hb6 HC6 HI HLB HQ3 HQ2 HCUT HSp
        have HBq := Aside0.mk (below_then HB.out HB.out.size HQ4.out)
        have HRq := Aside0.mk (Kd.R_below HR.out HQ4.out)
        have h3 : k6 < 1 ∨ (1 ≤ k6 ∧ n ≠ 6) ∨ (1 ≤ k6 ∧ n = 6) := by omega
        rcases h3 with h6 | ⟨h6, hn6⟩ | ⟨h6, rfl⟩
        · have hkb : decide (k6 < 1) = true := decide_eq_true h6
          have hbad : ∀ y, ¬ LineIs l y := by
            intro y hy
            obtain ⟨a', p0, p1, p2, p3, p4, e, h1, h2, _⟩ := HL1.out y hy
            have e1 := (List.cons.inj e).1
            rw [← e1, HK.out] at h1
            rcases HK6.out with ⟨h7, h8⟩ | ⟨h7, h8⟩ <;> omega
          have HO : Aside0 (RE (Big s ls) ls rem [] 8) := ⟨by
            refine .inr ⟨HBG.out, ?_⟩
            by_cases hr : rem = []
            · exact .inr (.inl ⟨hr, HBO.out hbad, rfl, rfl⟩)
            · exact .inl ⟨hr, rfl, rfl⟩⟩
          clear hbad
          go_wp2
          go_ret2
          exact ⟨[], 8, none, 0, HO.out, rfl, Kd.C_nil _ _, by simp, HBq.out⟩
        · have hn7 : ((n : Int) != 6) = true := bne_iff_ne.2 (by omega)
          have hkb : decide (k6 < 1) = false := decide_eq_false (by omega)
          have hbad : ∀ y, ¬ LineIs l y := by
            intro y hy
            obtain ⟨a', p0, p1, p2, p3, p4, e, _⟩ := HL1.out y hy
            have := HN.out
            rw [e] at this
            exact hn6 this.symm
          have HO : Aside0 (RE (Big s ls) ls rem [] 8) := ⟨by
            refine .inr ⟨HBG.out, ?_⟩
            by_cases hr : rem = []
            · exact .inr (.inl ⟨hr, HBO.out hbad, rfl, rfl⟩)
            · exact .inl ⟨hr, rfl, rfl⟩⟩
          clear hbad hn6
          go_wp2
          go_ret2
          exact ⟨[], 8, none, 0, HO.out, rfl, Kd.C_nil _ _, by simp, HBq.out⟩
        · obtain rfl : k6 = K := by rcases HK6.out with ⟨h7, h8⟩ | ⟨h7, h8⟩ <;> omega
          obtain ⟨p0, p1, p2, p3, p4, hL⟩ : ∃ p0 p1 p2 p3 p4, L = [p0, p1, p2, p3, p4] := by
            have h := HN.out
            match L, h with
            | [p0, p1, p2, p3, p4], _ => exact ⟨p0, p1, p2, p3, p4, rfl⟩
          subst hL
          have hkb : decide (k6 < 1) = false := decide_eq_false (by omega)
          have HPQ := HPs.out
          have HL3 := Lib.hid (HL2.out a p0 p1 p2 p3 p4)
          have HPZ := Lib.hid HPQ
          clear HPQ hkl
          have HW0 := Aside0.mk (below_alloc (below_alloc HQ4.out (.cells #[.int .i64 k6, .int .i64 0, .int .i64 0, .int .i64 0, .int .i64 0, .int .i64 0] 31)) (.cells #[.pointer (some ⟨wq.heap.size, 1, none⟩), .pointer (some ⟨wq.heap.size, 2, none⟩), .pointer (some ⟨wq.heap.size, 3, none⟩), .pointer (some ⟨wq.heap.size, 4, none⟩), .pointer (some ⟨wq.heap.size, 5, none⟩)] 62))
          have hsz1 : (wq.alloc (.cells #[.int .i64 k6, .int .i64 0, .int .i64 0, .int .i64 0, .int .i64 0, .int .i64 0] 31)).heap.size = wq.heap.size + 1 := by simp
          have hQM : QMid wr gP [a, p0, p1, p2, p3, p4] wq.heap.size (part k6 []) ((wq.alloc (.cells #[.int .i64 k6, .int .i64 0, .int .i64 0, .int .i64 0, .int .i64 0, .int .i64 0] 31)).alloc (.cells #[.pointer (some ⟨wq.heap.size, 1, none⟩), .pointer (some ⟨wq.heap.size, 2, none⟩), .pointer (some ⟨wq.heap.size, 3, none⟩), .pointer (some ⟨wq.heap.size, 4, none⟩), .pointer (some ⟨wq.heap.size, 5, none⟩)] 62)) := by
            refine ⟨HW0.out, ?_, ?_, ?_⟩
            · rw [Below.heap_alloc _ _ _ (by rw [hsz1]; omega), Below.heap_alloc _ _ _ hgp2]; exact HLB4.out
            · rw [Below.heap_alloc _ _ _ (by rw [hsz1]; omega)]; exact blk_new wq _
            · rw [← hsz1]; exact blk_new _ _
          have HQM := Aside0.mk hQM
          have hne : gP ≠ wq.heap.size := by omega
          have hgw : wr.heap.size ≤ wq.heap.size := HQ4.out.size
          have hszz := hsz1
          clear hQM hsz1 HLB4
          go_wp2_with fail
          try rw [hszz]
          generalize ((wq.alloc (.cells #[.int .i64 k6, .int .i64 0, .int .i64 0, .int .i64 0, .int .i64 0, .int .i64 0] 31)).alloc (.cells #[.pointer (some ⟨wq.heap.size, 1, none⟩), .pointer (some ⟨wq.heap.size, 2, none⟩), .pointer (some ⟨wq.heap.size, 3, none⟩), .pointer (some ⟨wq.heap.size, 4, none⟩), .pointer (some ⟨wq.heap.size, 5, none⟩)] 62)) = W2 at *
          generalize wq.heap.size = g at *
          clear hszz
          go_loopw [11, 12, 13, 14, 60] (fun _ _ _ _ i ws => ∃ (q : Nat) (vs : List Int), q ≤ 5 ∧ i = .int .i64 q ∧ Hid (vs.length = q) ∧ Hid (∀ (j : Nat) (x : ByteArray) (m : Int), [p0, p1, p2, p3, p4][j]? = some x → vs[j]? = some m → Can x.data.toList m) ∧ Aside0 (QMid wr gP [a, p0, p1, p2, p3, p4] g (part k6 vs) ws)) (fun _ _ _ _ i _ => 5 - (intOf i).toNat)
          case atStart => exact ⟨0, [], by omega, rfl, Lib.hid rfl, Lib.hid (by simp), HQM⟩
          case round =>
            obtain ⟨q, vs, hq, rfl, HVs, HCs, HQ⟩ := hrel
            have HBw := Aside0.mk (below_then HB.out HB.out.size HQ.out.below)
            by_cases hq5 : q < 5
            · obtain ⟨x, hx⟩ : ∃ x, [p0, p1, p2, p3, p4][q]? = some x := ⟨_, List.getElem?_eq_getElem (by show q < 5; exact hq5)⟩
              have hcx := HQ.out.piece (q + 1) x hx
              have hxs : x.size ≤ 500000 := HPZ.out x (List.mem_cons_of_mem _ (List.mem_of_getElem? hx))
              have hpt := ptr_at HQ.out q hq5
              have hw1 : IntKind.i64.wrap ((q : Int) + 1) = (q : Int) + 1 := IntWalk.i64_in _ (by omega)
              have HX := Lib.hid hx
              clear hx
              go_wp2_with fail
              refine (digitsAny x (by omega) _ (HE.out.below HBw.out)).mono ?_
              rintro e w5 ⟨m, ok, rfl, hb5, hok⟩
              have HQ5 := Aside0.mk (HQ.out.later hb5)
              have HB5 := Aside0.mk (below_then HBw.out HBw.out.size hb5)
              clear hb5 hcx
              rcases hok with ⟨rfl, hcan⟩ | ⟨rfl, hno⟩
              · have hcz : w5.cell? ⟨g, q + 1, none⟩ = some (.int .i64 0) := by rw [blk_cell HQ5.out.box]; exact part_zero k6 vs q hq5 HVs.out
                have hfz : w5.frozen? ⟨g, q + 1, none⟩ = false := freeOf HQ5.out.box _
                have HQ6 : Aside0 (QMid _ gP [a, p0, p1, p2, p3, p4] g (part k6 (vs ++ [m])) (w5.setCell ⟨g, q + 1, none⟩ (.int .i64 m))) := ⟨by
                  rw [← part_set k6 vs q hq5 HVs.out m]
                  exact HQ5.out.put hgw hne (q + 1) _⟩
                have HC2 : Hid (∀ (j : Nat) (y : ByteArray) (z : Int), [p0, p1, p2, p3, p4][j]? = some y → (vs ++ [m])[j]? = some z → Can y.data.toList z) := Lib.hid (by
                  intro j y z hy hz
                  by_cases hj : j < vs.length
                  · rw [List.getElem?_append_left hj] at hz
                    exact HCs.out j y z hy hz
                  · rw [List.getElem?_append_right (by omega)] at hz
                    have hj0 : j - vs.length = 0 := by
                      by_cases h : j - vs.length = 0
                      · exact h
                      · rw [List.getElem?_eq_none (by simp; omega)] at hz; cases hz
                    rw [hj0] at hz
                    have ez : m = z := Option.some.inj hz
                    have hjq : j = q := by have := HVs.out; omega
                    rw [hjq, HX.out] at hy
                    rw [← ez, ← Option.some.inj hy]
                    exact hcan)
                have HV3 : Hid ((vs ++ [m]).length = q + 1) := Lib.hid (by rw [List.length_append, HVs.out]; rfl)
                clear hcan
                go_wp2
                go_roundw
                case rel => exact ⟨q + 1, vs ++ [m], by omega, by go_num, HV3, HC2, HQ6⟩
                case measure => simp [intOf]; omega
              · have hbad : ∀ y, ¬ LineIs l y := by
                  intro y hy
                  obtain ⟨a', r0, r1, r2, r3, r4, e, _, _, h1, h2, h3, h4, h5⟩ := HL1.out y hy
                  simp only [List.cons.injEq, and_true] at e
                  obtain ⟨_, rfl, rfl, rfl, rfl, rfl⟩ := e
                  have hx := HX.out
                  have : q = 0 ∨ q = 1 ∨ q = 2 ∨ q = 3 ∨ q = 4 := by omega
                  rcases this with rfl | rfl | rfl | rfl | rfl <;> (have ex := Option.some.inj hx; subst ex)
                  · exact hno _ h1
                  · exact hno _ h2
                  · exact hno _ h3
                  · exact hno _ h4
                  · exact hno _ h5
                have HO : Aside0 (RE (Big s ls) ls rem [] 8) := ⟨by
                  refine .inr ⟨HBG.out, ?_⟩
                  by_cases hr : rem = []
                  · exact .inr (.inl ⟨hr, HBO.out hbad, rfl, rfl⟩)
                  · exact .inl ⟨hr, rfl, rfl⟩⟩
                clear hbad hno
                go_wp2
                go_ret2
                exact ⟨[], 8, none, 0, HO.out, rfl, Kd.C_nil _ _, by simp, HB5.out⟩
            · obtain rfl : q = 5 := by omega
              obtain ⟨m0, m1, m2, m3, m4, hvs⟩ : ∃ m0 m1 m2 m3 m4, vs = [m0, m1, m2, m3, m4] := by
                have h := HVs.out
                match vs, h with
                | [m0, m1, m2, m3, m4], _ => exact ⟨m0, m1, m2, m3, m4, rfl⟩
              subst hvs
              have hLI : LineIs l ⟨k6, m0, m1, m2, m3, m4⟩ := HL3.out ⟨k6, m0, m1, m2, m3, m4⟩ (by trivial) HK.out (by show 1 ≤ k6; omega) (HCs.out 0 _ _ rfl rfl) (HCs.out 1 _ _ rfl rfl) (HCs.out 2 _ _ rfl rfl) (HCs.out 3 _ _ rfl rfl) (HCs.out 4 _ _ rfl rfl)
              have hla : LinesAre (ls.take (k + 1)) (xs ++ [⟨k6, m0, m1, m2, m3, m4⟩]) := by
                have hk' := (List.getElem?_eq_some_iff.1 HLk.out).1
                have ek := (List.getElem?_eq_some_iff.1 HLk.out).2
                rw [List.take_succ_eq_append_getElem hk', ek]
                exact linesAre_snoc HLA.out hLI
              have HV2 : Hid ((xs ++ [(⟨k6, m0, m1, m2, m3, m4⟩ : Ent)]).length = k + 1 ∧ LinesAre (ls.take (k + 1)) (xs ++ [⟨k6, m0, m1, m2, m3, m4⟩])) := Lib.hid ⟨by rw [List.length_append, HV.out]; rfl, hla⟩
              have hkl := (List.getElem?_eq_some_iff.1 HLk.out).1
              have hR9 := Kd.R_below HR.out HQ.out.below
              obtain ⟨d0, d1, d2, d3, d4, d5⟩ := cellsSix (v0 := .int .i64 k6) (v1 := .int .i64 m0) (v2 := .int .i64 m1) (v3 := .int .i64 m2) (v4 := .int .i64 m3) (v5 := .int .i64 m4) HQ.out.box
              have HR9 := Aside0.mk hR9
              have HB9 := HBw
              clear hLI hla hR9 HCs HVs HL1 HL2 HL3 HPs HPZ
              go_wp2_with (first | ((with_reducible refine gate_builtin (b := .append) (xs := #[.tmp 80, .tmp 82]) rfl ?_); at_builtin; refine Kd.R_append entK (w0 := w) w.heap.size rfl (.tmp 80) (.tmp 82) 22 31 (.agg zero6) 48 rfl Tryd.underlying22 infoE rfl (by decide) (by omega) _ xs ⟨k6, m0, m1, m2, m3, m4⟩ [.int .i64 k6, .int .i64 m0, .int .i64 m1, .int .i64 m2, .int .i64 m3, .int .i64 m4] (fun _ => True) (fun _ => False) rfl rfl ?aP (fun _ hk => hk.elim) ?aF ?aO ?aB ?aS ?aL ?_; (case aP => exact rfl); (case aB => exact HB9.out); (case aF => exact (fun _ _ => trivial)); (case aO => exact HR9.out); (case aS => exact HB9.out.size); (case aL => have := HV.out; omega); intro v1 w9 ho hb hg hat; have HO1 := Aside0.mk ho; have HB99 := Aside0.mk hb; clear ho hb hg hat))
              go_wp2
              go_roundw
              case rel => exact ⟨k + 1, _, by omega, Lib.hid (by rw [HR0.out]), HV2, HB99, HO1⟩
              case measure => have := HLT.out; simp only [slen, ba_size]; omega
      · have hkk : k = ls.length := by omega
        have hdr : ls.drop k = [] := List.drop_of_length_le (by omega)
        have htk : ls.take k = ls := List.take_of_length_le (by omega)
        rw [htk] at HLA
        have eS : ended (ls.drop k) ++ rem = rem := by rw [hdr]; rfl
        have hz1 := HSZ.out k
        rw [eS] at hz1 ⊢
        clear hdr htk eS hkk
        by_cases hr : rem = []
        · subst hr
          have hse : (ba []).toList.isEmpty = true := by rw [ByteArray.toList_eq]; rfl
          obtain ⟨A, c, rfl, hc, hC⟩ := Kd.R_reads HR.out
          have HC := Aside0.mk hC
          have HCc := Lib.hid hc
          clear hC hc
          generalize ba [] = S at *
          go_wp2_with fail
          refine (entriesFault A xs.length c xs _ HC.out).mono ?_
          rintro e w3 ⟨t, er, hte, rfl, hb3⟩
          have HC3 := Aside0.mk (Kd.C_below HC.out hb3)
          have HW3 := Aside0.mk (below_then HB.out HB.out.size hb3)
          clear hb3
          by_cases her : er = 0
          · subst her
            have HO : Aside0 (RE (Big s ls) ls [] xs 0) := ⟨.inr ⟨HBG.out, .inr (.inr ⟨rfl, xs, t, HLA.out, hte, .inl ⟨rfl, rfl⟩⟩)⟩⟩
            clear hte
            go_wp2
            go_ret2
            exact ⟨xs, 0, A, c, HO.out, rfl, HC3.out, HCc.out, HW3.out⟩
          · have hne : (er != 0) = true := bne_iff_ne.2 her
            have HO : Aside0 (RE (Big s ls) ls [] [] er) := ⟨.inr ⟨HBG.out, .inr (.inr ⟨rfl, xs, t, HLA.out, hte, .inr ⟨her, rfl⟩⟩)⟩⟩
            clear hte her
            go_wp2
            go_ret2
            exact ⟨[], er, none, 0, HO.out, rfl, Kd.C_nil _ _, by simp, HW3.out⟩
        · have HO : Aside0 (RE (Big s ls) ls rem [] 8) := ⟨.inr ⟨HBG.out, .inl ⟨hr, rfl, rfl⟩⟩⟩
          have hcut : Lib.cut (ba rem).data.toList [10] = (rem, [], false) := by rw [ba_list]; exact cut_miss _ HRI.out
          have hse : (ba rem).toList.isEmpty = false := by
            rw [ByteArray.toList_eq, ba_list, Bool.eq_false_iff]
            intro e
            exact hr (List.isEmpty_iff.1 e)
          have hss : (ba rem).size ≤ 500000 := by rw [ba_size]; exact hz1
          obtain ⟨hPs, hPl, hPc⟩ := pieces_facts 32 (ba rem) hss
          have hsp := splitW 32 (ba rem) hss (piecesOf rem) rfl
          have hPl' : 1 ≤ (piecesOf rem).length := by show 1 ≤ (Lib.splitB ⟨#[32]⟩ 0 (Lib.countB (ba rem) ⟨#[32]⟩) (ba rem)).length; omega
          generalize piecesOf rem = P at *
          obtain ⟨a, L, rfl⟩ : ∃ a L, P = a :: L := by
            cases P with
            | nil => simp at hPl'
            | cons a L => exact ⟨a, L, rfl⟩
          have HI := Lib.hid (index12 a _ rfl)
          have HCUT := Lib.hid hcut
          have HSp := Lib.hid hsp
          clear hr hcut hPs hPl hPc hsp hPl'
          generalize ba rem = S at HCUT hse hss ⊢
          go_wp2_with fail
          refine (cutW S rem [] false HCUT.out hss _ (HM.out.below HB.out)).mono ?_
          rintro e w2 ⟨rfl, hb2⟩
          have HB2 := Aside0.mk (below_then HB.out HB.out.size hb2)
          clear hb2
          go_wp2_with fail
          refine (HSp.out _ (HM.out.below HB2.out)).mono ?_
          rintro e w3 ⟨rfl, hw3⟩
          have hlb : w3.heap[w2.heap.size]? = some (.cells ((a :: L).map Value.string).toArray 9 (0, 0)) := by rw [hw3]; exact blk_new w2 _
          have hb3 : Below w.heap.size w w3 := by rw [hw3]; exact below_alloc HB2.out _
          clear hw3
          generalize w2.heap.size = gP at *
          generalize hn : (a :: L).length = n at *
          have hn1 : 0 < n := by rw [← hn]; simp
          have hn2 : (0 : Int) < (n : Int) := by omega
          have hc0 : w3.cell? ⟨gP, 0, none⟩ = some (.string a) := by rw [blk_cell hlb]; rfl
          obtain ⟨b6, o6, c6, hg6, hb6, hcells6⟩ := HW.out.below hb3
          have HC6 := Lib.hid hcells6
          have HB3 := Aside0.mk hb3
          clear hn hlb hb3 hcells6
          go_wp2_with fail
          go_quiet ((go_at_call 23; exact Calls.quiet_of_same (HI.out _ _ _ _ HC6.out)))
          go_wp2
          go_ret2
          exact ⟨[], 8, none, 0, HO.out, rfl, Kd.C_nil _ _, by simp, by first | exact pw_below_drewN HB3.out _ | exact HB3.out⟩
end Go.Proofs.YtafolceicpkhoaaDoor.Pol
