/- Rings: Write, Peek, Set, Parts, New. -/
import Derived.Test.YtmellidlnggldaaRing3
namespace Go.Proofs.Ytmellidlnggldaa.Ring
set_option linter.unusedVariables false
open Go.RowKit Go.Proofs.YtmellidlnggldaaW.PrintWords Go.Proofs.YtmellidlnggldaaW.PrintLast Go.Proofs.YtmellidlnggldaaW.PrintMore Go.Proofs.Ytmellidlnggldaa.Book Go.Proofs.Ytmellidlnggldaa.Oct Go.Proofs.Ytmellidlnggldaa.Pure
set_option linter.unusedSimpArgs false

set_option maxHeartbeats 1000000 in
set_option maxRecDepth 100000 in
theorem put0 (r p : Nat) (o k s m : Int) (cl : Bool) (MA : Option Addr) (c a oc : Nat) (start len : Int) (OA : Option Addr) (w : World) (h : w.heap[r]? = some (ringCells p o k s m cl (.slice MA c c) start len)) (hc : c ≤ 100000) (ha : a ≤ c) :
    Calls Try.prog 26 #[.pointer (some ⟨r, 0, none⟩), .int .i64 a, .slice OA 0 oc] w fun e w' => e = .returned (.tuple #[]) ∧ Below w.heap.size w w' := by
  have H := Aside0.mk h
  obtain ⟨A2, hA2, eA2⟩ := sub_from OA 0 oc 0 0 rfl (Nat.le_refl _)
  clear h eA2
  go_enter Try.func26, Try.ntmps26
  go_wp2_with fail
  refine (cells r p o k s m cl _ c a 0 start len w H.out hc ha (Nat.zero_le _)).mono ?_
  rintro e w1 ⟨A1, rfl, hA1, m1, rfl⟩
  have hz : min (a + 0) c - a = 0 := by omega
  rw [hz]
  clear hA1
  go_wp2_with (first | ((with_reducible refine gate_builtin (b := .copy) (xs := #[.tmp 17, .tmp 18]) rfl ?_); refine wpList_copy_nothing rfl (.tmp 17) (.tmp 18) _ _ rfl 5 Try.underlying37 infoU1 A1 OA 0 0 0 oc rfl rfl rfl ?_) | ((with_reducible refine gate_builtin (b := .copy) (xs := #[.tmp 21, .tmp 22]) rfl ?_); refine wpList_copy_nothing rfl (.tmp 21) (.tmp 22) _ _ rfl 5 Try.underlying37 infoU1 MA A2 0 0 0 oc rfl rfl rfl ?_))
  go_end0
  exact ⟨rfl, pw_below_drewN (Below.refl _ _) _⟩

/-- The cell that is so far behind the first one, in a ring that has cells. -/
theorem cellS_mod {c start n : Nat} (h : c ≠ 0) : cellS c start n = (start + n) % c := by unfold cellS; rw [if_neg h]

theorem put_ring {w w' : World} {r p : Nat} {o k s m : Int} {MA : Option Addr} {c start : Nat} {ys xs : List Int} (hR : RingAt w r p o k s m MA c start ys xs) (mb : Nat) (e : MA = some ⟨mb, 0, none⟩) (os : List Int) (at_ : Nat) (h0 : c ≠ 0) (hat : at_ ≤ xs.length) (hfit : at_ + os.length ≤ c) (hrow : Row w' mb (ringPut ys os (cellS c start at_)))
    (hhead : w'.heap[r]? = some (ringCells p o k s m false (.slice MA c c) start ↑(max xs.length (at_ + os.length)))) : RingAt w' r p o k s m MA c start (ringPut ys os (cellS c start at_)) (xs.take at_ ++ os ++ xs.drop (at_ + os.length)) := by
  have hf := hR.full
  have hx := hR.fits
  have hs : start < c := hR.starts.resolve_right (fun h => h0 h.1)
  have hln : (xs.take at_ ++ os ++ xs.drop (at_ + os.length)).length = max xs.length (at_ + os.length) := by
    simp only [List.length_append, List.length_take, List.length_drop]; omega
  have hcl : cellS c start at_ < c := by rw [cellS_mod h0]; exact Nat.mod_lt _ (by omega)
  refine ⟨by rw [hln]; exact hhead, .inr ⟨mb, e, hrow⟩, ?_, hR.small, by rw [hln]; omega, .inl hs, ?_, hR.pol⟩
  · rw [put_length (by omega) (by omega)]; exact hf
  · rw [hln, cellS_mod h0]
    have := put_at (ys := ys) (os := os) (xs := xs) (start := start) (at_ := at_) (by omega) hR.shows (by omega) hat (by omega) _ rfl
    rw [hf] at this
    exact this

theorem write_done {w2 w4 : World} {r p : Nat} {o k s m : Int} {MA : Option Addr} {c start : Nat} {ys xs os : List Int} {b : BookS} {q : Parts} (hR : RingAt w2 r p o k s m MA c start ys xs) (hB : BookAt w2 p b q) (mb : Nat) (e : MA = some ⟨mb, 0, none⟩) (h0 : c ≠ 0) (hfit : xs.length + os.length ≤ c) (hrow : Row w4 mb (ringPut ys os (cellS c start xs.length))) (hu : Upd (fun j => j = mb) w2 w4) :
    RingAt (w4.setCell ⟨r, 8, none⟩ (.int .i64 ((xs.length : Int) + os.length))) r p o k s m MA c start (ringPut ys os (cellS c start xs.length)) (xs ++ os) ∧ BookAt (w4.setCell ⟨r, 8, none⟩ (.int .i64 ((xs.length : Int) + os.length))) p b q ∧ Upd (fun j => j = r ∨ j = mb) w2 (w4.setCell ⟨r, 8, none⟩ (.int .i64 ((xs.length : Int) + os.length))) := by
  have hne := hR.ring_mem e
  have e4 := (hu.block _ hR.lt hne).trans hR.head
  have hU : Upd (fun j => j = r ∨ j = mb) w2 (w4.setCell ⟨r, 8, none⟩ (.int .i64 ((xs.length : Int) + os.length))) := (hu.mono (fun j h => .inr h)).setCell ⟨r, 8, none⟩ (.inl (.inl rfl)) _
  refine ⟨?_, ?_, hU⟩
  · have h := put_ring (w' := w4.setCell ⟨r, 8, none⟩ (.int .i64 ((xs.length : Int) + os.length))) hR mb e os xs.length h0 (Nat.le_refl _) hfit (hrow.far ⟨r, 8, none⟩ (Ne.symm hne) _) (by
      rw [blk_set e4 8]
      have hm : max xs.length (xs.length + os.length) = xs.length + os.length := by omega
      rw [hm]
      push_cast
      rfl)
    have hx : xs.take xs.length ++ os ++ xs.drop (xs.length + os.length) = xs ++ os := by
      rw [List.take_length, List.drop_eq_nil_of_le (by omega), List.append_nil]
    rw [hx] at h
    exact h
  · refine hB.frame (fun j hj => hU.block j (hB.lt hj) (fun h => ?_))
    rcases h with rfl | rfl
    · exact hR.ring_foot hB hj
    · exact row_foot hB (hR.mem_lt e) hj

/-- What Write leaves. -/
structure Written (w w' : World) (r p : Nat) (o k s m : Int) (MA : Option Addr) (c start : Nat) (ys xs os : List Int) (b : BookS) (q : Parts) (mv : Bool) (err : Int) (MA' : Option Addr) (c' start' : Nat) (ys' : List Int) (b' : BookS) (q' : Parts) : Prop where
  ring : RingAt w' r p o k s m MA' c' start' ys' (if err = 0 then xs ++ os else xs)
  book : BookAt w' p b' q'
  ok : b'.OK
  bad : err ≠ 0 → mv = false
  same : mv = false → MA' = MA ∧ c' = c ∧ start' = start ∧ b' = b
  moved : mv = true → start' = 0 ∧ c < c' ∧ (∃ g, MA' = some ⟨g, 0, none⟩ ∧ w.heap.size ≤ g) ∧ ∃ i x, b.accs[i]? = some x ∧ x.1 = o ∧ b' = b.hold i o ((c' : Int) - c)
  upd : Upd (fun j => j = r ∨ MA = some ⟨j, 0, none⟩ ∨ q.Foot p j) w w'
  foot : ∀ j, q'.Foot p j → q.Foot p j ∨ w.heap.size ≤ j
  old : ∀ mb, MA = some ⟨mb, 0, none⟩ → ∃ zs, Row w' mb zs ∧ zs.length = c

set_option maxHeartbeats 1000000 in
set_option maxRecDepth 100000 in
theorem write {w : World} {r p : Nat} {o k s m : Int} {MA : Option Addr} {c start : Nat} {ys xs : List Int} {b : BookS} {q : Parts} (hR : RingAt w r p o k s m MA c start ys xs) (hB : BookAt w p b q) (hok : b.OK) (OA : Option Addr) (oc : Nat) (os : List Int) (ho : ReadsInt w .u8 OA os.length os) (hn : os.length ≤ 140737488355328) (hoc : OA = none → os.length = 0 ∧ oc = 0) :
    Calls Try.prog 9 #[.pointer (some ⟨r, 0, none⟩), .slice OA os.length oc] w fun e w' => ∃ mv err MA' c' start' ys' b' q', e = .returned (.tuple #[.bool mv, .int .i64 err]) ∧ Written w w' r p o k s m MA c start ys xs os b q mv err MA' c' start' ys' b' q' := by
  have HR := Aside0.mk hR
  have HB := Aside0.mk hB
  have HOK := Aside0.mk hok
  have HO := Aside0.mk ho
  have HOC := Lib.hid hoc
  clear hR hB hok ho hoc
  go_enter Try.func9, Try.ntmps9
  go_wp2_with fail
  refine (clone8 OA os.length oc os w HO.out hn HOC.out).mono ?_
  rintro e w1 ⟨PA, pc, rfl, hN⟩
  have HN := Aside0.mk hN
  have HR1 := Aside0.mk (HR.out.below hN.below)
  have HB1 := Aside0.mk (HB.out.frame (fun j hj => hN.below.block j (HB.out.lt hj)))
  clear hN
  go_wp2_with fail
  refine (reserve HR1.out HB1.out HOK.out os.length).mono ?_
  rintro e w2 ⟨mv, err, MA', c', start', ys', b', q', rfl, hV⟩
  have HV := Aside0.mk hV
  have HP : Aside0 (ReadsInt w2 .u8 PA os.length os) := ⟨reads_upd HN.out.reads hV.upd (fun ad e h0 => by
    obtain ⟨g, rfl, hy, _⟩ := HN.out.young ad e
    rintro (h | h)
    · have := HR.out.lt; simp only at h; omega
    · have := HB.out.lt h; simp only at this; omega)⟩
  have HU : Aside0 (Upd (fun j => j = r ∨ MA = some ⟨j, 0, none⟩ ∨ q.Foot p j) w w2) := ⟨(Upd.of_below HN.out.below).then hV.upd (fun j hj => .inl (hj.imp id .inr))⟩
  have HF : Hid (∀ j, q'.Foot p j → q.Foot p j ∨ w.heap.size ≤ j) := Lib.hid (fun j hj => (hV.foot j hj).imp id (fun h => Nat.le_trans HN.out.below.size h))
  have HMV : Hid (mv = true → start' = 0 ∧ c < c' ∧ (∃ g, MA' = some ⟨g, 0, none⟩ ∧ w.heap.size ≤ g) ∧ ∃ i x, b.accs[i]? = some x ∧ x.1 = o ∧ b' = b.hold i o ((c' : Int) - c)) := Lib.hid (fun h => by
    obtain ⟨a1, a2, ⟨g, a3, a4⟩, a5⟩ := hV.moved h
    exact ⟨a1, a2, ⟨g, a3, Nat.le_trans HN.out.below.size a4⟩, a5⟩)
  have HOLD : Hid (∀ mb, MA = some ⟨mb, 0, none⟩ → Row w2 mb ys ∨ (mv = false ∧ MA' = MA)) := Lib.hid (fun mb e => by
    cases mv with
    | false => exact .inr ⟨rfl, (hV.same rfl).1⟩
    | true =>
      refine .inl (((HR1.out.mem_lt e)).upd hV.upd (fun h => ?_))
      rcases h with h | h
      · exact HR1.out.ring_mem e h.symm
      · exact row_foot HB1.out (HR1.out.mem_lt e) h)
  clear hV
  by_cases he : err = 0
  · subst he
    have hroom := HV.out.room rfl
    have hsm := HV.out.ring.small
    have hst := HV.out.ring.start_le
    have hfi := HV.out.ring.fits
    have hh := HV.out.ring.head
    obtain ⟨_, _, _, _, _, _, _, _, h8⟩ := ring_cells hh
    clear hh
    go_wp2_with fail
    refine (cell r p o k s m false MA' c' start' xs.length xs.length w2 HV.out.ring.head hsm hst (by omega)).mono ?_
    rintro e w3 ⟨rfl, m3, rfl⟩
    have hcl : cellS c' start' xs.length ≤ c' := cellS_le
    have h8' : (w2.drewN m3).cell? ⟨r, 8, none⟩ = some (.int .i64 xs.length) := h8
    clear h8
    go_wp2_with fail
    by_cases hz : c' = 0
    · obtain rfl : os = [] := List.eq_nil_of_length_eq_zero (by omega)
      simp only [List.length_nil] at *
      refine (put0 r p o k s m false MA' c' (cellS c' start' xs.length) pc start' xs.length PA _ (by exact HV.out.ring.head) hsm hcl).mono ?_
      rintro e w4 ⟨rfl, hb4⟩
      have HB4 := Aside0.mk hb4
      have hh4 := (hb4.block _ HV.out.ring.lt).trans HV.out.ring.head
      obtain ⟨_, _, _, _, _, _, _, _, h84⟩ := ring_cells hh4
      have hf4 : w4.frozen? ⟨r, 8, none⟩ = false := blk_frozen hh4 8
      have HH4 := Aside0.mk hh4
      clear hb4 hh4 h8'
      go_wp2_with fail
      go_ret2
      have hxs0 : xs = [] := List.eq_nil_of_length_eq_zero (by omega)
      have hh9 : (w4.setCell ⟨r, 8, none⟩ (.int .i64 ((xs.length : Int) + 0))).heap[r]? = w4.heap[r]? := by
        rw [blk_set HH4.out 8, HH4.out]
        unfold ringCells
        rw [hxs0]
        rfl
      have hU4 : Upd (fun j => j = r) w2 (w4.setCell ⟨r, 8, none⟩ (.int .i64 ((xs.length : Int) + 0))) := (Upd.of_below (S := fun j => j = r) (below_then (pw_below_drewN (Below.refl _ _) _) (Nat.le_refl _) HB4.out)).setCell ⟨r, 8, none⟩ (.inl rfl) _
      have R9 : RingAt (w4.setCell ⟨r, 8, none⟩ (.int .i64 ((xs.length : Int) + 0))) r p o k s m MA' c' start' ys' xs := HV.out.ring.frame (hh9.trans (HB4.out.block _ HV.out.ring.lt)) (fun mb e => hU4.block _ (HV.out.ring.mem_lt e).lt (Ne.symm (HV.out.ring.ring_mem e)))
      refine ⟨mv, 0, MA', c', start', ys', b', q', rfl, by rw [if_pos rfl, List.append_nil]; exact R9, HV.out.book.frame (fun j hj => hU4.block j (HV.out.book.lt hj) (fun h => HV.out.ring.ring_foot HV.out.book (h ▸ hj))), HV.out.ok, (fun h => absurd rfl h), (fun h => by obtain ⟨a1, a2, a3, _, a5⟩ := HV.out.same h; exact ⟨a1, a2, a3, a5⟩), HMV.out, HU.out.then hU4 (fun j hj => .inl (.inl hj)), HF.out, fun mb e => ?_⟩
      cases mv with
      | false =>
        obtain ⟨a1, a2, _⟩ := HV.out.same rfl
        exact ⟨ys', R9.mem_lt (a1.trans e), R9.full.trans a2⟩
      | true => have := (HV.out.moved rfl).2.1; omega
    · have hcl2 : ∃ mb, MA' = some ⟨mb, 0, none⟩ ∧ Row w2 mb ys' := by
        rcases HV.out.ring.mem with ⟨h, _⟩ | h
        · exact absurd h hz
        · exact h
      obtain ⟨mb, rfl, hrow⟩ := hcl2
      have hmb : (mv = false ∧ MA = some ⟨mb, 0, none⟩) ∨ w1.heap.size ≤ mb := by
        cases mv with
        | false => exact .inl ⟨rfl, (HV.out.same rfl).1.symm⟩
        | true =>
          obtain ⟨_, _, ⟨g, e1, h1⟩, _⟩ := HV.out.moved rfl
          injection e1 with e1
          injection e1 with e1
          exact .inr (by omega)
      have HMB := Lib.hid hmb
      have HPN : Hid (∀ ad, PA = some ad → ad.block ≠ mb) := Lib.hid (fun ad e => by
        obtain ⟨g, rfl, hy, hlt⟩ := HN.out.young ad e
        intro h
        simp only at h
        rcases hmb with ⟨_, e1⟩ | h1
        · have := (HR.out.mem_lt e1).lt; omega
        · omega)
      clear hmb
      refine (put r p mb o k s m false c' (cellS c' start' xs.length) os.length pc start' xs.length PA ys' os _ (by exact HV.out.ring.head) (by exact hrow) HV.out.ring.full hsm hcl (by omega) (by exact HP.out) HN.out.fits HPN.out).mono ?_
      rintro e w4 ⟨rfl, hrow4, hu4⟩
      have hu4' : Upd (fun j => j = mb) w2 w4 := (Upd.of_below (S := fun j => j = mb) (pw_below_drewN (Below.refl w2.heap.size w2) m3)).then hu4 (fun j hj => .inl hj)
      have hne := HV.out.ring.ring_mem rfl
      have e4 := (hu4'.block _ HV.out.ring.lt hne).trans HV.out.ring.head
      obtain ⟨_, _, _, _, _, _, _, _, h84⟩ := ring_cells e4
      have hf4 : w4.frozen? ⟨r, 8, none⟩ = false := blk_frozen e4 8
      have HD := Aside0.mk (write_done HV.out.ring HV.out.book mb rfl hz hroom hrow4 hu4')
      clear hrow4 hu4 hu4' e4 hrow hne h8'
      go_wp2_with fail
      go_ret2
      obtain ⟨d1, d2, d3⟩ := HD.out
      refine ⟨mv, 0, _, c', start', _, b', q', rfl, by rw [if_pos rfl]; exact d1, d2, HV.out.ok, (fun h => absurd rfl h), (fun h => by obtain ⟨a1, a2, a3, _, a5⟩ := HV.out.same h; exact ⟨a1, a2, a3, a5⟩), HMV.out, HU.out.then d3 (fun j hj => ?_), HF.out, fun mb0 e => ?_⟩
      · rcases hj with h | rfl
        · exact .inl (.inl h)
        · rcases HMB.out with ⟨_, h⟩ | h
          · exact .inl (.inr (.inl h))
          · exact .inr (Nat.le_trans HN.out.below.size h)
      · cases mv with
        | false =>
          obtain ⟨a1, a2, _⟩ := HV.out.same rfl
          exact ⟨_, d1.mem_lt (a1.trans e), d1.full.trans a2⟩
        | true =>
          rcases HOLD.out mb0 e with h | ⟨h, _⟩
          · refine ⟨ys, h.upd d3 (fun h2 => ?_), HR.out.full⟩
            rcases h2 with h2 | h2
            · exact HR.out.ring_mem e h2.symm
            · have := (HR1.out.mem_lt e).lt
              rcases HMB.out with ⟨h3, _⟩ | h3
              · cases h3
              · omega
          · cases h
  · have hne : (err != 0) = true := by simp [he]
    obtain rfl : mv = false := HV.out.bad he
    go_wp2_with fail
    go_ret2
    exact ⟨false, err, MA', c', start', ys', b', q', rfl, by rw [if_neg he]; exact HV.out.ring, HV.out.book, HV.out.ok, HV.out.bad, (fun h => by obtain ⟨a1, a2, a3, _, a5⟩ := HV.out.same h; exact ⟨a1, a2, a3, a5⟩), HMV.out, HU.out, HF.out, fun mb0 e => by
      rcases HOLD.out mb0 e with h | ⟨_, h⟩
      · exact ⟨ys, h, HR.out.full⟩
      · obtain ⟨a1, a2, _⟩ := HV.out.same rfl
        exact ⟨_, HV.out.ring.mem_lt (a1.trans e), HV.out.ring.full.trans a2⟩⟩

set_option maxRecDepth 100000 in
theorem has_ok {w : World} {r p : Nat} {o k s m : Int} {MA : Option Addr} {c start : Nat} {ys xs : List Int} (hR : RingAt w r p o k s m MA c start ys xs) (at_ n : Nat) (h : at_ + n ≤ xs.length) :
    Calls Try.prog 32 #[.pointer (some ⟨r, 0, none⟩), .int .i64 at_, .int .i64 n] w fun e w' => e = .returned (.int .i64 0) ∧ w = w' := by
  obtain ⟨h0, h1, h2, h3, h4, h5, h6, h7, h8⟩ := ring_cells hR.head
  have hf := hR.fits
  have hc := hR.small
  have hd1 : decide ((n : Int) < 0) = false := decide_eq_false (by omega)
  have hd2 : decide ((at_ : Int) < 0) = false := decide_eq_false (by omega)
  have hd3 : decide (xs.length < n) = false := decide_eq_false (by omega)
  have hd4 : decide ((xs.length : Int) - (n : Int) < (at_ : Int)) = false := decide_eq_false (by omega)
  clear hR
  go_enter Try.func32, Try.ntmps32
  go_wp2
  go_ret
  exact ⟨rfl, rfl⟩

set_option maxHeartbeats 1000000 in
set_option maxRecDepth 100000 in
theorem parts {w : World} {r p : Nat} {o k s m : Int} {MA : Option Addr} {c start : Nat} {ys xs : List Int} (hR : RingAt w r p o k s m MA c start ys xs) :
    Calls Try.prog 13 #[.pointer (some ⟨r, 0, none⟩)] w fun e w' => ∃ A1, e = .returned (.tuple #[.slice A1 (min (start + xs.length) c - start) (min (start + xs.length) c - start), .slice MA (xs.length - (min (start + xs.length) c - start)) (xs.length - (min (start + xs.length) c - start)), .int .i64 0]) ∧ (start < min (start + xs.length) c → A1 = MA.map (·.add start)) ∧ ∃ m, w' = w.drewN m := by
  have HR := Aside0.mk hR
  obtain ⟨h0, h1, h2, h3, h4, h5, h6, h7, h8⟩ := ring_cells hR.head
  have hst : start ≤ c := by rcases hR.starts with h | h <;> omega
  clear hR
  have HC := Aside0.mk (cells r p o k s m false MA c start xs.length start xs.length w.drew (by exact HR.out.head) HR.out.small hst HR.out.fits)
  go_enter Try.func13, Try.ntmps13
  go_wp2_with fail
  go_cut [2, 3] (fun s2 s3 wx => ∃ A1, s2 = .slice A1 (min (start + xs.length) c - start) (min (start + xs.length) c - start) ∧ s3 = .slice MA (xs.length - (min (start + xs.length) c - start)) (xs.length - (min (start + xs.length) c - start)) ∧ Aside0 (start < min (start + xs.length) c → A1 = MA.map (·.add start)) ∧ ∃ n, wx = w.drewN n)
  case first =>
    go_region_held3 (fun w' => w'.cell? ⟨r, 7, none⟩ = some (.int .i64 start) ∧ w'.cell? ⟨r, 8, none⟩ = some (.int .i64 xs.length)) (exact ⟨h7, h8⟩) ((go_at_call 36; refine HC.out.mono ?_; rintro e w1 ⟨A1, rfl, hA, m1, rfl⟩; have HA := Aside0.mk hA; clear hA))
    all_goals
      go_wp2_with fail
      go_meet
      exact ⟨A1, rfl, rfl, ⟨HA.out⟩, _, rfl⟩
  case rest =>
    obtain ⟨A1, rfl, rfl, HA, n9, rfl⟩ := hcut
    go_wp2_with fail
    go_ret3
    exact ⟨A1, rfl, HA.out, _, rfl⟩

set_option maxHeartbeats 1000000 in
set_option maxRecDepth 100000 in
theorem newRing {p : Nat} {b : BookS} {q : Parts} {w : World} (hB : BookAt w p b q) (o k s m : Int) :
    Calls Try.prog 7 #[.pointer (some ⟨p, 0, none⟩), .int .i64 o, .agg #[.int .i64 k, .int .i64 s, .int .i64 m]] w fun e w' =>
      ((∃ err, err ≠ 0 ∧ e = .returned (.tuple #[.pointer none, .int .i64 err])) ∨ ∃ r, e = .returned (.tuple #[.pointer (some ⟨r, 0, none⟩), .int .i64 0]) ∧ w.heap.size ≤ r ∧ RingAt w' r p o k s m none 0 0 [] []) ∧ Below w.heap.size w w' := by
  have HB := Aside0.mk hB
  clear hB
  have HX := Aside0.mk (show (w.alloc (.cells #[.int .i64 k, .int .i64 s, .int .i64 m] 23)).heap[w.heap.size]? = some (.cells #[.int .i64 k, .int .i64 s, .int .i64 m] 23) from blk_new w _)
  by_cases hf : rgFault k s m = 0
  · by_cases hh : (heldS b o).2 = 0
    · have hne : ((heldS b o).2 != 0) = false := by simp [hh]
      rw [hh] at hne
      go_enter Try.func7, Try.ntmps7
      go_wp2_with (first | (go_at_call 22; refine (checkPolicy _ _ _ _).mono ?_; rintro e w1 ⟨rfl, h1⟩; rw [hf]; obtain ⟨hb0, hb1, hb2⟩ := box_cells (box_later h1); have H1 := Aside0.mk h1; clear h1) | (go_at_call 14; refine (held (HB.out.frame (fun k hk => by rw [H1.out.block k (by rw [alloc_size]; have := HB.out.lt hk; omega), Below.heap_alloc _ _ k (HB.out.lt hk)])) o).mono ?_; rintro e w2 ⟨rfl, rfl⟩; rw [hh]))
      go_ret2
      have hsz : w.heap.size ≤ w1.heap.size := by have := H1.out.size; simp at this; omega
      exact ⟨.inr ⟨_, rfl, hsz, ⟨by rw [blk_new]; rfl, .inl ⟨rfl, rfl, rfl⟩, rfl, by omega, Nat.le_refl _, .inr ⟨rfl, rfl⟩, by simp [ringTake], hf⟩⟩, below_alloc (below_then (below_alloc (Below.refl _ _) _) (by simp) H1.out) _⟩
    · have hne : ((heldS b o).2 != 0) = true := bne_iff_ne.2 hh
      go_enter Try.func7, Try.ntmps7
      go_wp2_with (first | (go_at_call 22; refine (checkPolicy _ _ _ _).mono ?_; rintro e w1 ⟨rfl, h1⟩; rw [hf]; obtain ⟨hb0, hb1, hb2⟩ := box_cells (box_later h1); have H1 := Aside0.mk h1; clear h1) | (go_at_call 14; refine (held (HB.out.frame (fun k hk => by rw [H1.out.block k (by rw [alloc_size]; have := HB.out.lt hk; omega), Below.heap_alloc _ _ k (HB.out.lt hk)])) o).mono ?_; rintro e w2 ⟨rfl, rfl⟩))
      go_ret2
      exact ⟨.inl ⟨_, hh, rfl⟩, below_then (below_alloc (Below.refl _ _) _) (by simp) H1.out⟩
  · have hne : (rgFault k s m != 0) = true := bne_iff_ne.2 hf
    go_enter Try.func7, Try.ntmps7
    go_wp2_with (first | (go_at_call 22; refine (checkPolicy _ _ _ _).mono ?_; rintro e w1 ⟨rfl, h1⟩; have H1 := Aside0.mk h1; clear h1))
    go_ret2
    exact ⟨.inl ⟨_, hf, rfl⟩, below_then (below_alloc (Below.refl _ _) _) (by simp) H1.out⟩
end Go.Proofs.Ytmellidlnggldaa.Ring
