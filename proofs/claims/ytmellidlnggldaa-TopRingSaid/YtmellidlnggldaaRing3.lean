/- Rings: wants, Reserve, Write. -/
import Derived.Test.YtmellidlnggldaaRing2
import Derived.IntWalk
namespace Go.Proofs.Ytmellidlnggldaa.Ring
set_option linter.unusedVariables false
open Go.RowKit Go.Proofs.YtmellidlnggldaaW.PrintWords Go.Proofs.YtmellidlnggldaaW.PrintLast Go.Proofs.YtmellidlnggldaaW.PrintMore Go.Proofs.Ytmellidlnggldaa.Book Go.Proofs.Ytmellidlnggldaa.Oct Go.Proofs.Ytmellidlnggldaa.Pure
set_option linter.unusedSimpArgs false

/-- What a ring with so many octets wants for n more. -/
def wantsS (k s m : Int) (c len n : Nat) : Int × Int := if 100000 < len + n then (0, 4) else rgGrow k s m c ↑(len + n)

set_option maxHeartbeats 1000000 in
set_option maxRecDepth 100000 in
theorem wants {w : World} {r p : Nat} {o k s m : Int} {MA : Option Addr} {c start : Nat} {ys xs : List Int} (hR : RingAt w r p o k s m MA c start ys xs) (n : Nat) :
    Calls Try.prog 40 #[.pointer (some ⟨r, 0, none⟩), .int .i64 n] w fun e w' => e = .returned (.tuple #[.int .i64 (wantsS k s m c xs.length n).1, .int .i64 (wantsS k s m c xs.length n).2]) ∧ Below w.heap.size w w' := by
  obtain ⟨h0, h1, h2, h3, h4, h5, h6, h7, h8⟩ := ring_cells hR.head
  have hx := hR.fits
  have hc := hR.small
  have HS : Aside0 (∀ w', Below w.drew.heap.size w.drew w' → w'.cell? ⟨r, 2, none⟩ = some (.int .i64 k) ∧ w'.cell? ⟨r, 3, none⟩ = some (.int .i64 s) ∧ w'.cell? ⟨r, 4, none⟩ = some (.int .i64 m) ∧ w'.cell? ⟨r, 6, none⟩ = some (.slice MA c c) ∧ w'.cell? ⟨r, 8, none⟩ = some (.int .i64 xs.length)) := ⟨fun w' hb => by
    obtain ⟨_, _, g2, g3, g4, _, g6, _, g8⟩ := ring_cells ((hb.block r hR.lt).trans hR.head)
    exact ⟨g2, g3, g4, g6, g8⟩⟩
  clear hR
  have hn0 : decide ((n : Int) < 0) = false := decide_eq_false (by omega)
  by_cases hl : 100000 < xs.length + n
  · have hS : wantsS k s m c xs.length n = (0, 4) := by unfold wantsS; rw [if_pos hl]
    rw [hS]
    have hd : decide (100000 - (xs.length : Int) < (n : Int)) = true := decide_eq_true (by omega)
    go_enter Try.func40, Try.ntmps40
    go_wp2
    go_ret2
    exact ⟨rfl, Below.refl _ _⟩
  · have hS : wantsS k s m c xs.length n = rgGrow k s m c ((xs.length : Int) + (n : Int)) := by unfold wantsS; rw [if_neg hl]; push_cast; rfl
    rw [hS]
    have hd : decide (100000 - (xs.length : Int) < (n : Int)) = false := decide_eq_false (by omega)
    go_enter Try.func40, Try.ntmps40
    have hw9 : IntKind.i64.wrap ((xs.length : Int) + (n : Int)) = (xs.length : Int) + (n : Int) := IntWalk.i64_in _ (by omega)
    go_wp2_with fail
    go_cut [4, 5] (fun s4 s5 wx => s4 = .int .i64 (rgGrow k s m c ((xs.length : Int) + (n : Int))).1 ∧ s5 = .int .i64 (rgGrow k s m c ((xs.length : Int) + (n : Int))).2 ∧ Aside0 (Below w.heap.size w wx))
    case first =>
      go_region_held3 (fun w' => w'.cell? ⟨r, 2, none⟩ = some (.int .i64 k) ∧ w'.cell? ⟨r, 3, none⟩ = some (.int .i64 s) ∧ w'.cell? ⟨r, 4, none⟩ = some (.int .i64 m) ∧ w'.cell? ⟨r, 6, none⟩ = some (.slice MA c c) ∧ w'.cell? ⟨r, 8, none⟩ = some (.int .i64 xs.length)) (first | exact ⟨h2, h3, h4, h6, h8⟩ | exact HS.out _ HB.out) ((go_at_call 28; refine (grow k s m _ _ _).mono ?_; rintro e w1 ⟨rfl, hb1⟩; have HB := Aside0.mk hb1; clear hb1))
      all_goals
        go_wp2_with fail
        go_meet
        exact ⟨rfl, rfl, ⟨below_then (below_drew (Below.refl _ _)) (Nat.le_refl _) HB.out⟩⟩
    case rest =>
      obtain ⟨rfl, rfl, HB⟩ := hcut
      go_wp2_with fail
      go_ret2
      exact ⟨rfl, HB.out⟩

/-- What Reserve leaves. -/
structure Reserved (w w' : World) (r p : Nat) (o k s m : Int) (MA : Option Addr) (c start : Nat) (ys xs : List Int) (b : BookS) (q : Parts) (n : Nat) (mv : Bool) (err : Int) (MA' : Option Addr) (c' start' : Nat) (ys' : List Int) (b' : BookS) (q' : Parts) : Prop where
  ring : RingAt w' r p o k s m MA' c' start' ys' xs
  book : BookAt w' p b' q'
  ok : b'.OK
  bad : err ≠ 0 → mv = false
  room : err = 0 → xs.length + n ≤ c'
  same : mv = false → MA' = MA ∧ c' = c ∧ start' = start ∧ ys' = ys ∧ b' = b
  moved : mv = true → start' = 0 ∧ c < c' ∧ (∃ g, MA' = some ⟨g, 0, none⟩ ∧ w.heap.size ≤ g) ∧ ∃ i x, b.accs[i]? = some x ∧ x.1 = o ∧ b' = b.hold i o ((c' : Int) - c)
  upd : Upd (fun j => j = r ∨ q.Foot p j) w w'
  foot : ∀ j, q'.Foot p j → q.Foot p j ∨ w.heap.size ≤ j

theorem reserved_same {w w' : World} {r p : Nat} {o k s m : Int} {MA : Option Addr} {c start : Nat} {ys xs : List Int} {b : BookS} {q : Parts} (hR : RingAt w r p o k s m MA c start ys xs) (hB : BookAt w p b q) (hok : b.OK) (n : Nat) (err : Int) (he : err = 0 → xs.length + n ≤ c) (hl : Book.Leaves w w' p q b) : ∃ q', Reserved w w' r p o k s m MA c start ys xs b q n false err MA c start ys b q' := by
  obtain ⟨q', l1, l2, l3⟩ := hl
  exact ⟨q', hR.foot hB l2, l1, hok, fun _ => rfl, he, fun _ => ⟨rfl, rfl, rfl, rfl, rfl⟩, (fun h => by cases h), l2.mono (fun j hj => .inr hj), l3⟩

set_option maxHeartbeats 1000000 in
set_option maxRecDepth 100000 in
theorem reserve {w : World} {r p : Nat} {o k s m : Int} {MA : Option Addr} {c start : Nat} {ys xs : List Int} {b : BookS} {q : Parts} (hR : RingAt w r p o k s m MA c start ys xs) (hB : BookAt w p b q) (hok : b.OK) (n : Nat) :
    Calls Try.prog 25 #[.pointer (some ⟨r, 0, none⟩), .int .i64 n] w fun e w' => ∃ mv err MA' c' start' ys' b' q', e = .returned (.tuple #[.bool mv, .int .i64 err]) ∧ Reserved w w' r p o k s m MA c start ys xs b q n mv err MA' c' start' ys' b' q' := by
  have HR := Aside0.mk hR
  have HB := Aside0.mk hB
  have HOK := Aside0.mk hok
  obtain ⟨h0, h1, h2, h3, h4, h5, h6, h7, h8⟩ := ring_cells hR.head
  have hx := hR.fits
  have hc := hR.small
  clear hR hB hok h0 h1 h2 h3 h4 h5 h7
  have HW := Aside0.mk (wants HR.out n)
  obtain ⟨W1, hW1⟩ : ∃ W1, W1 = (wantsS k s m c xs.length n).1 := ⟨_, rfl⟩
  obtain ⟨W2, hW2⟩ : ∃ W2, W2 = (wantsS k s m c xs.length n).2 := ⟨_, rfl⟩
  rw [← hW1, ← hW2] at HW
  by_cases he : W2 = 0
  · have hne : (W2 != 0) = false := by simp [he]
    have hl : ¬ 100000 < xs.length + n := fun h => by
      unfold wantsS at hW2
      rw [if_pos h] at hW2
      simp at hW2; omega
    have hS : wantsS k s m c xs.length n = rgGrow k s m c ↑(xs.length + n) := by unfold wantsS; rw [if_neg hl]
    rw [hS] at hW1 hW2
    obtain ⟨g1, g2, _, _, _, _, g3, _⟩ := rg_grow_le k s m c ↑(xs.length + n) (by rw [← hW2]; exact he)
    rw [← hW1] at g1 g2 g3
    obtain ⟨z, rfl⟩ := Int.eq_ofNat_of_zero_le (show 0 ≤ W1 by omega)
    subst he
    clear hW1 hW2 hS
    by_cases hz : z = c
    · subst hz
      go_enter Try.func25, Try.ntmps25
      go_wp2_with fail
      refine HW.out.mono ?_
      rintro e w1 ⟨rfl, hb1⟩
      have h6' := hb1.cell (p := ⟨r, 6, none⟩) (by exact HR.out.lt) |>.trans h6
      have HB1 := Aside0.mk hb1
      clear hb1 h6
      go_wp2_with fail
      go_ret2
      obtain ⟨q', hq⟩ := reserved_same HR.out HB.out HOK.out n 0 (fun _ => by omega) (leaves_same HB.out HB1.out)
      exact ⟨false, 0, _, _, _, _, _, q', rfl, hq⟩
    · have hzc : ((z : Int) == (c : Int)) = false := by simp; omega
      have hzc2 : (z == c) = false := by simp [hz]
      go_enter Try.func25, Try.ntmps25
      go_wp2_with fail
      refine HW.out.mono ?_
      rintro e w1 ⟨rfl, hb1⟩
      have h6' := hb1.cell (p := ⟨r, 6, none⟩) (by exact HR.out.lt) |>.trans h6
      have h8' := hb1.cell (p := ⟨r, 8, none⟩) (by exact HR.out.lt) |>.trans h8
      have HB1 := Aside0.mk hb1
      have HR1 := Aside0.mk (HR.out.below hb1)
      clear hb1 h6 h8
      go_wp2_with fail
      refine (octets r p o k s m false MA c start 0 xs.length xs.length ys w1 HR1.out.head HR1.out.reads HR1.out.none_zero hc HR1.out.start_le (by omega) hx).mono ?_
      rintro e w2 ⟨B, cap, rfl, hN⟩
      have hsh : ringTake ys (cellS c start 0) xs.length = xs := by
        have : cellS c start 0 = start := by
          unfold cellS
          rcases HR.out.starts with h | ⟨h, h'⟩
          · rw [if_neg (by omega), Nat.mod_eq_of_lt (by omega)]; rfl
          · rw [if_pos h, h']
        rw [this]; exact HR.out.shows
      rw [hsh] at hN
      have HN := Aside0.mk hN
      have HR2 := Aside0.mk (HR1.out.below hN.below)
      have HB2 := Aside0.mk (below_then HB1.out HB1.out.size hN.below)
      have HK2 := Aside0.mk (HB.out.frame (fun j hj => HB2.out.block j (HB.out.lt hj)))
      have HBF : Hid (∀ ad, B = some ad → ad.block ≠ r ∧ ¬ q.Foot p ad.block) := Lib.hid (fun ad e => by
        obtain ⟨g, rfl, hy, _⟩ := hN.young ad e
        have := HB1.out.size
        exact ⟨fun e => by have := HR.out.lt; simp only at e; omega, fun hk => by have := HB.out.lt hk; simp only at this; omega⟩)
      clear hN hsh h6' h8'
      go_wp2_with fail
      by_cases hce : changeErr b o c z = 0
      · refine (move_ok HR2.out HK2.out HOK.out z (by omega) (by omega) B cap xs HN.out.reads (by omega) HBF.out hce).mono ?_
        rintro e w3 ⟨rfl, g, i, x, q', hM⟩
        have HM := Aside0.mk hM
        clear hM
        go_wp2_with fail
        go_ret2
        have hU := (Upd.of_below (S := fun j => j = r ∨ q.Foot p j) HB2.out).then HM.out.upd (fun j hj => .inl hj)
        have hsz := HB2.out.size
        refine ⟨true, 0, some ⟨g, 0, none⟩, z, 0, _, _, q', rfl, HM.out.ring, HM.out.book, HM.out.ok, (fun h => absurd rfl h), (fun _ => by omega), (fun h => by cases h), (fun _ => ⟨rfl, by omega, ⟨g, rfl, by have := HM.out.young; omega⟩, i, x, HM.out.acc.1, HM.out.acc.2.1, rfl⟩), hU, fun j hj => (HM.out.foot j hj).imp id (fun h => by omega)⟩
      · refine (move_bad HR2.out HK2.out HOK.out z B xs.length cap hce).mono ?_
        rintro e w3 ⟨rfl, hl3⟩
        have HL3 := Aside0.mk (leaves_then HB.out HB2.out hl3)
        obtain ⟨E, hE⟩ : ∃ E, E = changeErr b o c z := ⟨_, rfl⟩
        rw [← hE] at hce ⊢
        have hee : (E == 0) = false := by simp [hce]
        clear hl3 hE
        go_wp2_with fail
        go_ret2
        obtain ⟨q', hq⟩ := reserved_same HR.out HB.out HOK.out n E (fun h => absurd h hce) HL3.out
        exact ⟨false, E, _, _, _, _, _, q', rfl, hq⟩
  · have hne : (W2 != 0) = true := by simp [he]
    clear hW1 hW2
    go_enter Try.func25, Try.ntmps25
    go_wp2_with fail
    refine HW.out.mono ?_
    rintro e w1 ⟨rfl, hb1⟩
    have HB1 := Aside0.mk hb1
    clear hb1
    go_wp2_with fail
    go_ret2
    obtain ⟨q', hq⟩ := reserved_same HR.out HB.out HOK.out n W2 (fun h => absurd h he) (leaves_same HB.out HB1.out)
    exact ⟨false, W2, _, _, _, _, _, q', rfl, hq⟩
end Go.Proofs.Ytmellidlnggldaa.Ring
