/- room.number and cornref1.Digits (at most nine digits), at every string. -/
import Derived.Test.YtnikkejfpnnmcaaDoorReadPol
import Derived.Test.YtnikkejfpnnmcaaDoorCanon
import Derived.Lib.AtoiAllCases
namespace Go.Proofs.YtnikkejfpnnmcaaDoor.Pol
set_option linter.unusedVariables false
open Go.RowKit Go.Proofs.YtnikkejfpnnmcaaDoorW.PrintWords Go.Proofs.YtnikkejfpnnmcaaDoorW.PrintLast Go.Proofs.YtnikkejfpnnmcaaDoorW.PrintMore Go.Proofs.YtnikkejfpnnmcaaDoor.Policy
set_option linter.unusedSimpArgs false

/-- What the variables of the two errors hold: errors. -/
structure Errs (w : World) : Prop where
  syn : ∃ u v, w.cell? ⟨5, 0, none⟩ = some (.iface u v)
  ran : ∃ u v, w.cell? ⟨6, 0, none⟩ = some (.iface u v)
theorem cell_stays {w w' : World} {g : Nat} {v : Value} (h : w.cell? ⟨g, 0, none⟩ = some v) (hb : Below w.heap.size w w') : w'.cell? ⟨g, 0, none⟩ = some v := by
  rw [← h]
  exact Below.cell hb (p := ⟨g, 0, none⟩) (by simpa using World.block_lt_of_cell? w _ h)
theorem Errs.below {w w' : World} (h : Errs w) (hb : Below w.heap.size w w') : Errs w' := by
  obtain ⟨⟨a, b, h1⟩, ⟨c, d, h2⟩⟩ := h
  exact ⟨⟨a, b, cell_stays h1 hb⟩, ⟨c, d, cell_stays h2 hb⟩⟩

/-- How Atoi ends, at every string. -/
theorem atoiAny (s : ByteArray) (hs : s.size ≤ 281474976710656) (w : World) (hE : Errs w) :
    (∃ v, Lib.atoiAll s.data.toList = .ok v ∧ Calls Tryd.prog 37 #[.string s] w fun e w' => e = .returned (.tuple #[.int .i64 v, .nilIface]) ∧ Below w.heap.size w w') ∨
    ((∀ v, Lib.atoiAll s.data.toList ≠ .ok v) ∧ Calls Tryd.prog 37 #[.string s] w fun e w' => ∃ n t p, e = .returned (.tuple #[.int .i64 n, .iface t p]) ∧ Below w.heap.size w w') := by
  obtain ⟨⟨a, b, h1⟩, ⟨c, d, h2⟩⟩ := hE
  rcases hv : Lib.atoiAll s.data.toList with v | _ | _
  · left
    refine ⟨v, rfl, (Any.strconv_Atoi_ok Tryd.laysC172 s (by omega) v hv w).mono ?_⟩
    rintro e w' ⟨rfl, h⟩
    refine ⟨rfl, ?_⟩
    rcases h with rfl | ⟨t, rfl⟩
    · exact Below.refl _ _
    · exact bytes_below (Below.refl w.heap.size w) (Nat.le_refl _) 5 t
  · right
    refine ⟨fun v => by simp, (Any.strconv_Atoi_syntax Tryd.laysC172 s hs hv _ w h1 (.inr ⟨_, _, rfl⟩)).mono ?_⟩
    rintro e w' ⟨N, rfl, _, _, hb⟩
    exact ⟨_, _, _, rfl, hb⟩
  · right
    refine ⟨fun v => by simp, (Any.strconv_Atoi_range Tryd.laysC172 s hs hv _ w h2 (.inr ⟨_, _, rfl⟩)).mono ?_⟩
    rintro e w' ⟨N, rfl, _, _, hb⟩
    exact ⟨_, _, _, rfl, hb⟩
theorem itoaAny (v : Int) (h0 : -9223372036854775808 ≤ v) (h1 : v ≤ 9223372036854775807) (w : World) (hT : Tabs w) : Calls Tryd.prog 20 #[.int .i64 v] w fun e w' => e = .returned (.string (itB v)) ∧ Below w.heap.size w w' :=
  (Tryd.strconv_Itoa v h0 h1 w hT.pow).mono fun e w' ⟨h, hg⟩ => ⟨h, below_grown hg⟩

def tpB (s : ByteArray) : ByteArray := ⟨(tp s.data.toList).toArray⟩
theorem trimAny (s : ByteArray) (w : World) : Calls Tryd.prog 38 #[.string s, .string { data := #[45] }] w fun e w' => e = .returned (.string (tpB s)) ∧ w = w' :=
  (Tryd.strings_TrimPrefix s ⟨#[45]⟩ w).mono fun e w' ⟨h, hw⟩ => ⟨h, hw.symm⟩
theorem tpB_size (s : ByteArray) : (tpB s).size = (tp s.data.toList).length := by simp [tpB, ByteArray.size]
theorem tpB_list (s : ByteArray) : (tpB s).data.toList = tp s.data.toList := by simp [tpB]
theorem tp_le (l : List UInt8) : (tp l).length ≤ l.length := by
  unfold tp Lib.trimPrefix
  split
  · simp
  · exact Nat.le_refl _

set_option maxHeartbeats 2000000 in
set_option maxRecDepth 100000 in
theorem number_yes (s : ByteArray) (v : Int) (hv : Can s.data.toList v) (w : World) (hT : Tabs w) (hE : Errs w) :
    Calls Tryd.prog 24 #[.string s] w fun e w' => e = .returned (.tuple #[.int .i64 v, .bool true]) ∧ Below w.heap.size w w' := by
  have hsm := can_small hv
  have hlen := can_len hv
  have hsz : s.size = s.data.toList.length := rfl
  have hat : Calls Tryd.prog 37 #[.string s] w fun e w' => e = .returned (.tuple #[.int .i64 v, .nilIface]) ∧ Below w.heap.size w w' := by
    rcases atoiAny s (by omega) w hE with ⟨u, h1, h2⟩ | ⟨h1, _⟩
    · rw [can_atoi hv] at h1
      injection h1 with h1
      rw [h1]; exact h2
    · exact absurd (can_atoi hv) (h1 v)
  have hi : itB v = s := by
    apply ByteArray.ext
    apply Array.toList_inj.1
    simp [itB, hv.1]
  have ht9 : ((tpB s).size : Int) ≤ 9 := by rw [tpB_size]; have := hv.2; omega
  have HA := Aside0.mk hat
  have HI := Aside0.mk (fun u hu => itoaAny v (by omega) (by omega) u hu)
  rw [hi] at HI
  have HT := Aside0.mk hT
  clear hT hat hi hE hv hlen hsz
  go_enter Tryd.func24, Tryd.ntmps24
  go_wp2_with fail
  refine HA.out.mono ?_
  rintro e w1 ⟨rfl, hb1⟩
  have HB1 := Aside0.mk hb1
  clear hb1
  go_wp2_with fail
  refine (HI.out w1 (HT.out.below HB1.out)).mono ?_
  rintro e w2 ⟨rfl, hb2⟩
  have H2 := Aside0.mk (below_then HB1.out HB1.out.size hb2)
  clear hb2
  go_wp2_with fail
  refine (trimAny s _).mono ?_
  rintro e w3 ⟨rfl, rfl⟩
  go_wp2_with fail
  go_ret2
  exact ⟨rfl, H2.out⟩

theorem iface_nil (w : World) (t : TypeId) (v : Value) : (binOp .eql 60 (.iface t v) .nilIface).run Tryd.prog w = .ok (.bool false) w := by simp [go_sem]
theorem nil_nil (w : World) : (binOp .eql 60 .nilIface .nilIface).run Tryd.prog w = .ok (.bool true) w := by simp [go_sem]

set_option maxHeartbeats 2000000 in
set_option maxRecDepth 100000 in
theorem number_no (s : ByteArray) (hs : s.size ≤ 200000) (hno : ∀ v, ¬ Can s.data.toList v) (w : World) (hT : Tabs w) (hE : Errs w) :
    Calls Tryd.prog 24 #[.string s] w fun e w' => ∃ n, e = .returned (.tuple #[.int .i64 n, .bool false]) ∧ Below w.heap.size w w' := by
  rcases atoiAny s (by omega) w hE with ⟨u, h1, h2⟩ | ⟨h1, h2⟩
  · have hb := Lib.atoiAll_bounds h1
    have HA := Aside0.mk h2
    have HT := Aside0.mk hT
    have HI := Aside0.mk (fun u' hu => itoaAny u hb.1 hb.2 u' hu)
    by_cases hi : itB u = s
    · have ht9 : decide (((tpB s).size : Int) ≤ 9) = false := by
        apply decide_eq_false
        rw [tpB_size]
        have hi2 : Lib.itoa u = s.data.toList := by rw [← hi]; simp [itB]
        have : ¬ (tp s.data.toList).length ≤ 9 := fun h => hno u ⟨hi2, h⟩
        omega
      rw [hi] at HI
      clear hT hE hno h1 h2 hb hi
      go_enter Tryd.func24, Tryd.ntmps24
      go_wp2_with fail
      refine HA.out.mono ?_
      rintro e w1 ⟨rfl, hb1⟩
      have HB1 := Aside0.mk hb1
      clear hb1
      go_wp2_with fail
      refine (HI.out w1 (HT.out.below HB1.out)).mono ?_
      rintro e w2 ⟨rfl, hb2⟩
      have H2 := Aside0.mk (below_then HB1.out HB1.out.size hb2)
      clear hb2
      go_wp2_with fail
      refine (trimAny s _).mono ?_
      rintro e w3 ⟨rfl, rfl⟩
      go_wp2_with fail
      go_ret2
      exact ⟨_, rfl, H2.out⟩
    · have hne : ((itB u).toList == s.toList) = false := by
        rw [beq_eq_false_iff_ne]
        intro e
        apply hi
        rw [ByteArray.toList_eq, ByteArray.toList_eq] at e
        apply ByteArray.ext
        apply Array.toList_inj.1
        exact e
      clear hT hE hno h1 h2 hb hi
      go_enter Tryd.func24, Tryd.ntmps24
      go_wp2_with fail
      refine HA.out.mono ?_
      rintro e w1 ⟨rfl, hb1⟩
      have HB1 := Aside0.mk hb1
      clear hb1
      go_wp2_with fail
      refine (HI.out w1 (HT.out.below HB1.out)).mono ?_
      rintro e w2 ⟨rfl, hb2⟩
      have H2 := Aside0.mk (below_then HB1.out HB1.out.size hb2)
      clear hb2
      go_wp2_with fail
      go_ret2
      exact ⟨_, rfl, H2.out⟩
  · have HA := Aside0.mk h2
    have hif := iface_nil
    clear hT hE hno h1 h2
    go_enter Tryd.func24, Tryd.ntmps24
    go_wp2_with fail
    refine HA.out.mono ?_
    rintro e w1 ⟨n, t, p, rfl, hb1⟩
    have HB1 := Aside0.mk hb1
    clear hb1
    go_wp2_with fail
    go_ret2
    exact ⟨_, rfl, HB1.out⟩
end Go.Proofs.YtnikkejfpnnmcaaDoor.Pol
