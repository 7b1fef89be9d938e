/- The limits; same, meets, Overlap, Same. -/
import Derived.Test.YtghdeoeajbnfkaaWOv
namespace Go.Proofs.Ytghdeoeajbnfkaa.WSl
open Go.RowKit Go.Proofs.YtghdeoeajbnfkaaW.PrintWords Go.Proofs.YtghdeoeajbnfkaaW.PrintLast Go.Proofs.YtghdeoeajbnfkaaW.PrintMore Go.Proofs.Ytghdeoeajbnfkaa.WMem
set_option linter.unusedSimpArgs false
set_option linter.unusedVariables false

/-- What check answers. -/
def chk (l : List Sl) : Int := if 100 < l.length then 4 else if ∃ s ∈ l, 2000 < s.n then 4 else 0

theorem chk_cases (l : List Sl) : chk l = 4 ∨ chk l = 0 := by
  unfold chk
  split
  · exact .inl rfl
  · split
    · exact .inl rfl
    · exact .inr rfl

set_option maxHeartbeats 4000000 in
set_option maxRecDepth 100000 in
theorem check (A : Option Addr) (g o c : Nat) (l : List Sl) (w : World) (hl : RowAt w A g o l) (hn : l.length ≤ 1000000) :
    Calls Try.prog 21 #[.slice A l.length c] w fun e w' => e = .returned (.int .i64 (chk l)) ∧ w' = w := by
  have HL := Aside0.mk hl
  clear hl
  generalize hln : l.length = n at hn
  have HN := Lib.hid hln
  by_cases hb : 100 < n
  · have hd : decide (100 < n) = true := decide_eq_true hb
    have HE := Lib.hid (show chk l = 4 by unfold chk; rw [if_pos (by omega)])
    clear hln
    go_enter Try.func21, Try.ntmps21
    go_wp2
    go_ret
    exact ⟨by rw [HE.out]; rfl, rfl⟩
  · have hd : decide (100 < n) = false := decide_eq_false hb
    have HC := Lib.hid (show chk l = if ∃ s ∈ l, 2000 < s.n then 4 else 0 by unfold chk; rw [if_neg (by omega)])
    clear hln
    go_enter Try.func21, Try.ntmps21
    go_wp2
    go_loop [4, 10] (fun _ i => ∃ k : Nat, k ≤ n ∧ i = .int .i64 k ∧ Hid (∀ s ∈ l.take k, s.n ≤ 2000)) (fun _ i => n - (intOf i).toNat)
    case atStart => exact ⟨0, Nat.zero_le _, rfl, fun s hs => by simp at hs⟩
    case round =>
      obtain ⟨k, hk, rfl, HI⟩ := hrel
      by_cases hlt : k < n
      · have hkl : k < l.length := by rw [HN.out]; exact hlt
        have hA := HL.out.A (by omega)
        subst hA
        have hcell := HL.out.cell k l[k] (by simp)
        have hv : l[k].val = .slice l[k].A l[k].n l[k].c := rfl
        rw [hv] at hcell
        by_cases h2 : 2000 < l[k].n
        · have HE := Lib.hid (show chk l = 4 by rw [HC.out, if_pos ⟨l[k], List.getElem_mem _, h2⟩])
          generalize l[k].A = kA at hcell
          generalize l[k].c = kc at hcell
          generalize l[k].n = kn at hcell h2
          have h2b : decide (2000 < kn) = true := decide_eq_true h2
          clear hkl hv
          go_wp2
          go_ret
          exact ⟨by rw [HE.out]; rfl, rfl⟩
        · have HX := Lib.hid (show ∀ s ∈ l.take (k + 1), s.n ≤ 2000 from fun s hs => by
            rw [take_next hkl] at hs
            rcases List.mem_append.1 hs with hs | hs
            · exact HI.out s hs
            · obtain rfl := List.mem_singleton.1 hs; omega)
          generalize l[k].A = kA at hcell
          generalize l[k].c = kc at hcell
          generalize l[k].n = kn at hcell h2
          have h2b : decide (2000 < kn) = false := decide_eq_false h2
          clear hkl hv
          go_wp2
          go_round
          case rel => exact ⟨k + 1, by omega, by go_num, HX⟩
          case measure => simp [intOf]; omega
      · have hkn : k = n := by omega
        have HE := Lib.hid (show chk l = 0 by
          rw [HC.out, if_neg]
          rintro ⟨s, hs, h⟩
          have := HI.out s (by rw [hkn, ← HN.out, List.take_length]; exact hs)
          omega)
        clear hkn
        go_wp2
        go_ret
        exact ⟨by rw [HE.out]; rfl, rfl⟩

theorem two_row (w : World) (a b : Sl) : RowAt (w.alloc (.cells #[a.val, b.val] 22)) (some ⟨w.heap.size, 0, none⟩) w.heap.size 0 [a, b] :=
  ⟨fun _ => rfl, fun i s hi => by
    have hb := blk_new w (.cells #[a.val, b.val] 22)
    match i with
    | 0 => simp at hi; subst hi; rw [blk_cell hb]; rfl
    | 1 => simp at hi; subst hi; rw [blk_cell hb]; rfl
    | i + 2 => simp at hi⟩

set_option maxHeartbeats 4000000 in
set_option maxRecDepth 100000 in
theorem meets (a b : Sl) (w : World) (ha : Lies w a) (hb : Lies w b) :
    Calls Try.prog 24 #[a.val, b.val] w fun e w' => e = .returned (.bool (decide (0 < (ovr a b).2.2))) ∧ Below w.heap.size w w' := by
  have HT := Aside0.mk (overlap a b w ha hb)
  clear ha hb
  generalize a.val = va at HT
  generalize b.val = vb at HT
  generalize ovr a b = r at HT
  obtain ⟨r1, r2, r3⟩ := r
  dsimp only at HT
  go_enter Try.func24, Try.ntmps24
  go_wp2_with (first | (go_at_call 22; refine HT.out.mono ?_; rintro e w2 ⟨rfl, hB⟩; have HB := Aside0.mk hB; clear hB))
  go_ret
  exact ⟨rfl, HB.out⟩

/-- Whether they share each octet. -/
def sam (a b : Sl) : Bool := decide (a.n = b.n) && (decide ((ovr a b).1 = 0) && (decide ((ovr a b).2.1 = 0) && decide ((ovr a b).2.2 = a.n)))

set_option maxHeartbeats 4000000 in
set_option maxRecDepth 100000 in
theorem same (a b : Sl) (w : World) (ha : Lies w a) (hb : Lies w b) :
    Calls Try.prog 23 #[a.val, b.val] w fun e w' => e = .returned (.bool (sam a b)) ∧ Below w.heap.size w w' := by
  have HT := Aside0.mk (overlap a b w ha hb)
  have hva : a.val = .slice a.A a.n a.c := rfl
  have hvb : b.val = .slice b.A b.n b.c := rfl
  have hsa := ha.small
  have hsb := hb.small
  clear ha hb
  unfold sam
  rw [hva, hvb] at HT ⊢
  generalize a.A = aA at HT
  generalize a.c = ac at HT
  generalize b.A = bA at HT
  generalize b.c = bc at HT
  generalize ovr a b = r at HT
  clear hva hvb
  generalize a.n = an at HT hsa
  generalize b.n = bn at HT hsb
  obtain ⟨r1, r2, r3⟩ := r
  dsimp only at HT ⊢
  go_enter Try.func23, Try.ntmps23
  go_wp2_with (first | (go_at_call 22; refine HT.out.mono ?_; rintro e w2 ⟨rfl, hB⟩; have HB := Aside0.mk hB; clear hB))
  all_goals (go_ret; refine ⟨?_, HB.out⟩; clear HT HB; simp_all)
  · rw [show decide (an = bn) = true from decide_eq_true (by omega), Bool.true_and]; rfl
  · intro h; exfalso; omega

theorem results_tmp4 {fn : Func} {t u v x : Tmp} (h : fn.results = #[.tmp t, .tmp u, .tmp v, .tmp x]) (tmps : Array Value) (P : Program) (w : World) :
    (results fn tmps).run P w = .ok (.tuple #[tmps.getD t undef, tmps.getD u undef, tmps.getD v undef, tmps.getD x undef]) w := by
  simp [results, h]

theorem two_below (w : World) (a b : Sl) : Below w.heap.size w (w.alloc (.cells #[a.val, b.val] 22)) := below_alloc (Below.refl _ _) _

theorem check_two (w : World) (a b : Sl) :
    Calls Try.prog 21 #[.slice (some ⟨w.heap.size, 0, none⟩) 2 2] (w.alloc (.cells #[a.val, b.val] 22)) fun e w' => e = .returned (.int .i64 (chk [a, b])) ∧ w' = w.alloc (.cells #[a.val, b.val] 22) :=
  check (some ⟨w.heap.size, 0, none⟩) w.heap.size 0 2 [a, b] _ (two_row w a b) (by simp)

set_option maxHeartbeats 4000000 in
set_option maxRecDepth 100000 in
theorem overlapAll (a b : Sl) (w : World) (ha : Lies w a) (hb : Lies w b) :
    Calls Try.prog 5 #[a.val, b.val] w fun e w' => (∃ r1 r2 r3, e = .returned (.tuple #[.int .i64 r1, .int .i64 r2, .int .i64 r3, .int .i64 (chk [a, b])]) ∧ (chk [a, b] = 0 → (r1, r2, r3) = ovr a b)) ∧ Below w.heap.size w w' := by
  have HC := Aside0.mk (check_two w a b)
  have HT := Aside0.mk (overlap a b (w.alloc (.cells #[a.val, b.val] 22)) (Lies.below ha (two_below w a b)) (Lies.below hb (two_below w a b)))
  have hcc := chk_cases [a, b]
  clear ha hb
  obtain ⟨aA, an, ac, hva⟩ : ∃ A n c, a.val = .slice A n c := ⟨_, _, _, rfl⟩
  obtain ⟨bA, bn, bc, hvb⟩ : ∃ A n c, b.val = .slice A n c := ⟨_, _, _, rfl⟩
  rw [hva, hvb] at HC HT ⊢
  clear hva hvb
  generalize ovr a b = r at *
  generalize chk [a, b] = q at *
  obtain ⟨r1, r2, r3⟩ := r
  dsimp only at HT
  rcases hcc with rfl | rfl
  · go_enter Try.func5, Try.ntmps5
    go_wp2_with (first | (go_at_call 21; refine HC.out.mono ?_; rintro e w2 ⟨rfl, rfl⟩))
    refine bodyPost_ret (results_tmp4 rfl _ _ _) rfl ?_
    exact ⟨⟨0, 0, 0, rfl, fun h => by cases h⟩, below_alloc (Below.refl _ _) _⟩
  · go_enter Try.func5, Try.ntmps5
    go_wp2_with (first | (go_at_call 21; refine HC.out.mono ?_; rintro e w2 ⟨rfl, rfl⟩) | (go_at_call 22; refine HT.out.mono ?_; rintro e w2 ⟨rfl, hB⟩; have HB := Aside0.mk hB; clear hB))
    refine bodyPost_ret (results_tmp4 rfl _ _ _) rfl ?_
    exact ⟨⟨r1, r2, r3, rfl, fun _ => rfl⟩, (below_alloc (Below.refl _ _) _).trans (HB.out.mono (by simp))⟩

set_option maxHeartbeats 4000000 in
set_option maxRecDepth 100000 in
theorem sameAll (a b : Sl) (w : World) (ha : Lies w a) (hb : Lies w b) :
    Calls Try.prog 6 #[a.val, b.val] w fun e w' => (∃ r, e = .returned (.tuple #[.bool r, .int .i64 (chk [a, b])]) ∧ (chk [a, b] = 0 → r = sam a b)) ∧ Below w.heap.size w w' := by
  have HC := Aside0.mk (check_two w a b)
  have HT := Aside0.mk (same a b (w.alloc (.cells #[a.val, b.val] 22)) (Lies.below ha (two_below w a b)) (Lies.below hb (two_below w a b)))
  have hcc := chk_cases [a, b]
  clear ha hb
  obtain ⟨aA, an, ac, hva⟩ : ∃ A n c, a.val = .slice A n c := ⟨_, _, _, rfl⟩
  obtain ⟨bA, bn, bc, hvb⟩ : ∃ A n c, b.val = .slice A n c := ⟨_, _, _, rfl⟩
  rw [hva, hvb] at HC HT ⊢
  clear hva hvb
  generalize sam a b = r at *
  generalize chk [a, b] = q at *
  rcases hcc with rfl | rfl
  · go_enter Try.func6, Try.ntmps6
    go_wp2_with (first | (go_at_call 21; refine HC.out.mono ?_; rintro e w2 ⟨rfl, rfl⟩))
    refine bodyPost_ret (results_tmp2 rfl _ _ _) rfl ?_
    exact ⟨⟨false, rfl, fun h => by cases h⟩, below_alloc (Below.refl _ _) _⟩
  · go_enter Try.func6, Try.ntmps6
    go_wp2_with (first | (go_at_call 21; refine HC.out.mono ?_; rintro e w2 ⟨rfl, rfl⟩) | (go_at_call 23; refine HT.out.mono ?_; rintro e w2 ⟨rfl, hB⟩; have HB := Aside0.mk hB; clear hB))
    refine bodyPost_ret (results_tmp2 rfl _ _ _) rfl ?_
    exact ⟨⟨r, rfl, fun _ => rfl⟩, (below_alloc (Below.refl _ _) _).trans (HB.out.mono (by simp))⟩

end Go.Proofs.Ytghdeoeajbnfkaa.WSl
