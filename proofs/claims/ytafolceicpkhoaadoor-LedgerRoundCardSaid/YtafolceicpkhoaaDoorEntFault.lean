/- cornref1.entriesFault, for every list of entries. -/
import Derived.Test.YtafolceicpkhoaaDoorEntText
namespace Go.Proofs.YtafolceicpkhoaaDoor.Pol
set_option linter.unusedVariables false
set_option linter.unusedSimpArgs false
open Go.RowKit Go.Proofs.YtafolceicpkhoaaDoorW.PrintWords Go.Proofs.YtafolceicpkhoaaDoorW.PrintLast Go.Proofs.YtafolceicpkhoaaDoorW.PrintMore Go.Proofs.YtafolceicpkhoaaDoor.Bld

theorem first_inj : ∀ {a a' : List Ent} {x x' : Ent} {b b' : List Ent}, a ++ x :: b = a' ++ x' :: b' → (∀ y ∈ a, Right y) → (∀ y ∈ a', Right y) → ¬ Right x → ¬ Right x' → x = x'
  | [], [], x, x', b, b', h, _, _, _, _ => by simpa using (List.cons.inj h).1
  | [], c :: a', x, x', b, b', h, _, g, hx, _ => by
    have e := (List.cons.inj h).1
    exact absurd (by rw [e]; exact g c (by simp)) hx
  | c :: a, [], x, x', b, b', h, g, _, _, hx => by
    have e := (List.cons.inj h).1
    exact absurd (by rw [← e]; exact g c (by simp)) hx
  | c :: a, c' :: a', x, x', b, b', h, g, g', hx, hx' => first_inj (List.cons.inj h).2 (fun y hy => g y (by simp [hy])) (fun y hy => g' y (by simp [hy])) hx hx'
theorem textSays_inj {xs : List Ent} {s s' : ByteArray} {er er' : Int} (h : TextSays xs s er) (g : TextSays xs s' er') : s = s' ∧ er = er' := by
  have bad : ∀ {er : Int} {x : Ent}, ((¬ (1 ≤ x.k ∧ x.k ≤ 11) ∧ er = 10) ∨ ((1 ≤ x.k ∧ x.k ≤ 11) ∧ (∃ n ∈ x.nums, ¬ InB n) ∧ er = 2)) → ¬ Right x := by
    rintro er x (⟨h1, _⟩ | ⟨_, ⟨n, h1, h2⟩, _⟩) hr
    · exact h1 ⟨hr.1, hr.2.1⟩
    · exact h2 (hr.2.2 n h1)
  rcases h with ⟨h1, rfl, rfl⟩ | ⟨h1, h2, rfl, rfl⟩ | ⟨h1, rfl, a, x, b, rfl, h3, h4⟩
  · rcases g with ⟨g1, rfl, rfl⟩ | ⟨g1, _⟩ | ⟨g1, _⟩
    · exact ⟨rfl, rfl⟩
    · omega
    · omega
  · rcases g with ⟨g1, _⟩ | ⟨g1, g2, rfl, rfl⟩ | ⟨g1, _, a', x', b', rfl, g3, g4⟩
    · omega
    · exact ⟨rfl, rfl⟩
    · exact absurd (h2 x' (by simp)) (bad g4)
  · rcases g with ⟨g1, _⟩ | ⟨g1, g2, _⟩ | ⟨g1, rfl, a', x', b', e, g3, g4⟩
    · omega
    · exact absurd (g2 x (by simp)) (bad h4)
    · obtain rfl := first_inj e h3 g3 (bad h4) (bad g4)
      refine ⟨rfl, ?_⟩
      rcases h4 with ⟨h5, rfl⟩ | ⟨h5, _, rfl⟩ <;> rcases g4 with ⟨g5, rfl⟩ | ⟨g5, _, rfl⟩
      · rfl
      · exact absurd g5 h5
      · exact absurd h5 g5
      · rfl

set_option maxHeartbeats 16000000 in
set_option maxRecDepth 100000 in
theorem entriesFault (A : Option Addr) (n c : Nat) (xs : List Ent) (w : World) (hr : Kd.C entK w A n xs) :
    Calls Tryd.prog 25 #[.slice A n c] w fun e w' => ∃ s er, TextSays xs s er ∧ e = .returned (.int .i64 er) ∧ Below w.heap.size w w' := by
  have hlen : xs.length = n := hr.1
  by_cases hl : 5000 < n
  · have hd : decide ((5000 : Int) < (n : Int)) = true := decide_eq_true (by omega)
    have HO : Aside0 (TextSays xs ByteArray.empty 4) := ⟨.inl ⟨by omega, rfl, rfl⟩⟩
    clear hr hlen
    go_enter Tryd.func25, Tryd.ntmps25
    go_wp2
    go_ret
    exact ⟨_, _, HO.out, rfl, Below.refl _ _⟩
  · have hd : decide ((5000 : Int) < (n : Int)) = false := decide_eq_false (by omega)
    have HL := Lib.hid hlen
    have HR := Aside0.mk hr
    clear hr hlen
    go_enter Tryd.func25, Tryd.ntmps25
    go_wp2_with fail
    go_loopw [4, 6, 12, 36] (fun _ _ i _ wr => ∃ k : Nat, k ≤ n ∧ i = .int .i64 k ∧ Aside0 (Below w.heap.size w wr) ∧ Hid (∀ x ∈ xs.take k, Right x)) (fun _ _ i _ _ => n - (intOf i).toNat)
    case atStart => exact ⟨0, Nat.zero_le _, rfl, ⟨Below.refl _ _⟩, Lib.hid (by simp)⟩
    case round =>
      obtain ⟨k, hk, rfl, HW, HRt⟩ := hrel
      by_cases hlt : k < n
      · obtain ⟨x, hx⟩ : ∃ x, xs[k]? = some x := ⟨_, List.getElem?_eq_getElem (by rw [HL.out]; exact hlt)⟩
        obtain ⟨ad, rfl, c0, hc⟩ := entAt (Kd.C_below HR.out HW.out) k x hx
        have c1 := hc 1 _ rfl
        have c2 := hc 2 _ rfl
        have c3 := hc 3 _ rfl
        have c4 := hc 4 _ rfl
        have c5 := hc 5 _ rfl
        have HX := Lib.hid hx
        clear hc hx
        have hxk : xs.take k ++ x :: xs.drop (k + 1) = xs := by
          have e := (List.getElem?_eq_some_iff.1 HX.out).2
          rw [← e, ← List.drop_eq_getElem_cons, List.take_append_drop]
        have HXK := Lib.hid hxk
        clear hxk
        by_cases hkd : 1 ≤ x.k ∧ x.k ≤ 11
        · have hKd := Lib.hid hkd
          have hk1 : decide (x.k < 1) = false := decide_eq_false (by omega)
          have hk2 : decide (11 < x.k) = false := decide_eq_false (by omega)
          have hN : ((wr.alloc (.cells #[.int .i64 x.k, .int .i64 x.o, .int .i64 x.t, .int .i64 x.a, .int .i64 x.l, .int .i64 x.u] 31)).alloc (.cells #[.int .i64 x.o, .int .i64 x.t, .int .i64 x.a, .int .i64 x.l, .int .i64 x.u] 3)).heap[wr.heap.size + 1]? = some (.cells (([x.o, x.t, x.a, x.l, x.u] : List Int).map (Value.int .i64)).toArray 3 (0, 0)) := by
            have := blk_new (wr.alloc (.cells #[.int .i64 x.k, .int .i64 x.o, .int .i64 x.t, .int .i64 x.a, .int .i64 x.l, .int .i64 x.u] 31)) (.cells #[.int .i64 x.o, .int .i64 x.t, .int .i64 x.a, .int .i64 x.l, .int .i64 x.u] 3)
            simpa using this
          have HN := Aside0.mk hN
          have HW2 := Aside0.mk (below_alloc (below_alloc HW.out (.cells #[.int .i64 x.k, .int .i64 x.o, .int .i64 x.t, .int .i64 x.a, .int .i64 x.l, .int .i64 x.u] 31)) (.cells #[.int .i64 x.o, .int .i64 x.t, .int .i64 x.a, .int .i64 x.l, .int .i64 x.u] 3))
          clear hN hkd
          go_wp2_with fail
          generalize ((wr.alloc (.cells #[.int .i64 x.k, .int .i64 x.o, .int .i64 x.t, .int .i64 x.a, .int .i64 x.l, .int .i64 x.u] 31)).alloc (.cells #[.int .i64 x.o, .int .i64 x.t, .int .i64 x.a, .int .i64 x.l, .int .i64 x.u] 3)) = W2 at *
          clear c0 c1 c2 c3 c4 c5
          generalize wr.heap.size = g at *
          go_loop [6, 36] (fun _ i2 => ∃ q : Nat, q ≤ 5 ∧ i2 = .int .i64 q ∧ Hid (∀ m ∈ x.nums.take q, InB m)) (fun _ i2 => 5 - (intOf i2).toNat)
          case atStart => exact ⟨0, by omega, rfl, Lib.hid (by simp)⟩
          case round =>
            obtain ⟨q, hq, rfl, HIq⟩ := hrel
            by_cases hq5 : q < 5
            · obtain ⟨m, hm⟩ : ∃ m, x.nums[q]? = some m := ⟨_, List.getElem?_eq_getElem (by show q < 5; exact hq5)⟩
              have hcq : W2.cell? ⟨g + 1, q, none⟩ = some (.int .i64 m) := by
                rw [blk_cell HN.out]
                have : ([x.o, x.t, x.a, x.l, x.u] : List Int)[q]? = some m := hm
                rw [List.getElem?_toArray, List.getElem?_map, this]; rfl
              have hmem : m ∈ x.nums := List.mem_of_getElem? hm
              by_cases hmb : 0 ≤ m ∧ m ≤ 10000000
              · have hin : InB m := hmb
                have hbb : decide (0 ≤ m ∧ m ≤ 10000000) = true := decide_eq_true hmb
                have HIN : Hid (∀ y ∈ x.nums.take (q + 1), InB y) := Lib.hid (by
                  intro y hy
                  rw [List.take_succ_eq_append_getElem (by show q < 5; exact hq5)] at hy
                  rcases List.mem_append.1 hy with hy | hy
                  · exact HIq.out y hy
                  · have e : y = x.nums[q]'(by show q < 5; exact hq5) := by simpa using hy
                    have e2 := (List.getElem?_eq_some_iff.1 hm).2
                    rw [e, e2]; exact hin)
                clear hm hmem hin hmb
                go_wp2_with fail
                refine (inBudget m _).mono ?_
                rintro e w5 ⟨rfl, rfl⟩
                rw [hbb]
                clear hbb
                go_wp2
                go_round
                case rel => exact ⟨q + 1, by omega, by go_num, HIN⟩
                case measure => simp [intOf]; omega
              · have hbb : decide (0 ≤ m ∧ m ≤ 10000000) = false := decide_eq_false hmb
                have HO : Aside0 (TextSays xs ByteArray.empty 2) := ⟨.inr (.inr ⟨by rw [HL.out]; omega, rfl, _, x, _, HXK.out.symm, HRt.out, .inr ⟨hKd.out, ⟨m, hmem, hmb⟩, rfl⟩⟩)⟩
                clear hmb hm hmem
                go_wp2_with fail
                refine (inBudget m _).mono ?_
                rintro e w5 ⟨rfl, rfl⟩
                rw [hbb]
                go_wp2
                go_ret
                exact ⟨_, _, HO.out, rfl, HW2.out⟩
            · obtain rfl : q = 5 := by omega
              have hRn : ∀ y ∈ xs.take (k + 1), Right y := by
                intro y hy
                have hk' := (List.getElem?_eq_some_iff.1 HX.out).1
                rw [List.take_succ_eq_append_getElem hk'] at hy
                rcases List.mem_append.1 hy with hy | hy
                · exact HRt.out y hy
                · have e : y = xs[k] := by simpa using hy
                  have e2 := (List.getElem?_eq_some_iff.1 HX.out).2
                  rw [e, e2]
                  exact ⟨hKd.out.1, hKd.out.2, fun y hy => HIq.out y (by rw [List.take_of_length_le (by show 5 ≤ 5; omega)]; exact hy)⟩
              have HRn := Lib.hid hRn
              clear hRn
              go_wp2
              go_roundw
              case rel => exact ⟨k + 1, by omega, by go_num, HW2, HRn⟩
              case measure => simp [intOf]; omega
        · have hkb : decide (x.k < 1) = true ∨ (decide (x.k < 1) = false ∧ decide (11 < x.k) = true) := by
            by_cases h : x.k < 1
            · exact .inl (decide_eq_true h)
            · exact .inr ⟨decide_eq_false h, decide_eq_true (by omega)⟩
          have HO : Aside0 (TextSays xs ByteArray.empty 10) := ⟨.inr (.inr ⟨by rw [HL.out]; omega, rfl, _, x, _, HXK.out.symm, HRt.out, .inl ⟨hkd, rfl⟩⟩)⟩
          clear hkd
          rcases hkb with hk1 | ⟨hk1, hk2⟩
          all_goals
            go_wp2
            go_ret
            exact ⟨_, _, HO.out, rfl, below_alloc HW.out _⟩
      · have hkn : n ≤ k := by omega
        have htk : xs.take k = xs := List.take_of_length_le (by rw [HL.out]; exact hkn)
        rw [htk] at HRt
        have HO : Aside0 (TextSays xs (ba (textOf xs)) 0) := ⟨.inr (.inl ⟨by rw [HL.out]; omega, HRt.out, rfl, rfl⟩)⟩
        clear htk
        go_wp2
        go_ret
        exact ⟨_, _, HO.out, rfl, HW.out⟩
end Go.Proofs.YtafolceicpkhoaaDoor.Pol
