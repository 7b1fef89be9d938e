/- Rings: what a ring is in memory, and what makes it greater. -/
import Derived.Test.YtmellidlnggldaaRing
namespace Go.Proofs.Ytmellidlnggldaa.Ring
set_option linter.unusedVariables false
open Go.RowKit Go.Proofs.YtmellidlnggldaaW.PrintWords Go.Proofs.YtmellidlnggldaaW.PrintLast Go.Proofs.YtmellidlnggldaaW.PrintMore Go.Proofs.Ytmellidlnggldaa.Book Go.Proofs.Ytmellidlnggldaa.Oct Go.Proofs.Ytmellidlnggldaa.Pure
set_option linter.unusedSimpArgs false

/-- A ring in memory: its cells are ys, its octets xs. -/
structure RingAt (w : World) (r p : Nat) (o k s m : Int) (MA : Option Addr) (c start : Nat) (ys xs : List Int) : Prop where
  head : w.heap[r]? = some (ringCells p o k s m false (.slice MA c c) start xs.length)
  mem : (c = 0 ∧ MA = none ∧ ys = []) ∨ ∃ mb, MA = some ⟨mb, 0, none⟩ ∧ Row w mb ys
  full : ys.length = c
  small : c ≤ 100000
  fits : xs.length ≤ c
  starts : start < c ∨ (c = 0 ∧ start = 0)
  shows : ringTake ys start xs.length = xs
  pol : rgFault k s m = 0

section
variable {w w' : World} {r p : Nat} {o k s m : Int} {MA : Option Addr} {c start : Nat} {ys xs : List Int} {b : BookS} {q : Parts}
theorem RingAt.reads (h : RingAt w r p o k s m MA c start ys xs) : ReadsInt w .u8 MA c ys := by
  rcases h.mem with ⟨rfl, rfl, rfl⟩ | ⟨mb, rfl, hr⟩
  · exact reads_nothing _ _ _
  · have h1 := hr.reads_at 0 c (by have := h.full; omega) (by have := h.full; have := h.small; unfold maxLen; omega)
    have h2 : (ys.drop 0).take c = ys := by rw [List.drop_zero]; exact List.take_of_length_le (by have := h.full; omega)
    rw [h2] at h1; exact h1
theorem RingAt.none_zero (h : RingAt w r p o k s m MA c start ys xs) : MA = none → c = 0 := fun e => by
  rcases h.mem with ⟨h1, _⟩ | ⟨mb, h1, _⟩
  · exact h1
  · rw [e] at h1; cases h1
theorem RingAt.start_le (h : RingAt w r p o k s m MA c start ys xs) : start ≤ 100000 := by
  have := h.small
  rcases h.starts with h | h <;> omega
theorem RingAt.frame (h : RingAt w r p o k s m MA c start ys xs) (hr : w'.heap[r]? = w.heap[r]?) (hm : ∀ mb, MA = some ⟨mb, 0, none⟩ → w'.heap[mb]? = w.heap[mb]?) : RingAt w' r p o k s m MA c start ys xs where
  head := hr.trans h.head
  mem := h.mem.imp id (fun ⟨mb, e, hR⟩ => ⟨mb, e, (hm mb e).trans hR⟩)
  full := h.full
  small := h.small
  fits := h.fits
  starts := h.starts
  shows := h.shows
  pol := h.pol
theorem RingAt.lt (h : RingAt w r p o k s m MA c start ys xs) : r < w.heap.size := blk_lt h.head
theorem RingAt.mem_lt (h : RingAt w r p o k s m MA c start ys xs) {mb : Nat} (e : MA = some ⟨mb, 0, none⟩) : Row w mb ys := by
  rcases h.mem with ⟨_, h1, _⟩ | ⟨mb', h1, hr⟩
  · rw [e] at h1; cases h1
  · rw [e] at h1
    injection h1 with h1
    injection h1 with h1
    rw [h1]; exact hr
theorem RingAt.below (h : RingAt w r p o k s m MA c start ys xs) (hb : Below w.heap.size w w') : RingAt w' r p o k s m MA c start ys xs :=
  h.frame (hb.block _ h.lt) (fun mb e => hb.block _ (h.mem_lt e).lt)
theorem not_foot (hB : BookAt w p b q) {k : Nat} {cs : Array Value} {t : TypeId} (h : w.heap[k]? = some (.cells cs t)) (h1 : t ≠ 54) (h2 : t ≠ 58) (h3 : t ≠ 118) (h4 : t ≠ 61) : ¬ q.Foot p k := by
  intro hk
  rcases hk with rfl | rfl | hk | hk | hk
  · rw [hB.head] at h
    injection h with h
    injection h with _ h _
    exact h1 h.symm
  · obtain ⟨es, c, hb, _⟩ := hB.map
    rw [hb] at h
    cases h
  · obtain ⟨a, ha⟩ := hB.box_of hk
    rw [ha] at h
    unfold accCells at h
    injection h with h
    injection h with _ h _
    exact h2 h.symm
  · exact own_not hB.leases h (Ne.symm h3) hk
  · exact own_not hB.entries h (Ne.symm h4) hk
theorem RingAt.ring_foot (h : RingAt w r p o k s m MA c start ys xs) (hB : BookAt w p b q) : ¬ q.Foot p r := not_foot hB h.head (by decide) (by decide) (by decide) (by decide)
theorem row_foot (hB : BookAt w p b q) {g : Nat} (h : Row w g ys) : ¬ q.Foot p g := not_foot hB h (by decide) (by decide) (by decide) (by decide)
theorem ring_row (h : w.heap[r]? = some (ringCells p o k s m false (.slice MA c c) start xs.length)) {g : Nat} (hg : Row w g ys) : r ≠ g := fun e => by
  rw [e] at h
  unfold Row at hg
  rw [hg] at h
  unfold ringCells at h
  injection h with h
  injection h with _ h _
  exact absurd h (by decide)
theorem RingAt.ring_mem (h : RingAt w r p o k s m MA c start ys xs) {g : Nat} (e : MA = some ⟨g, 0, none⟩) : r ≠ g := ring_row h.head (h.mem_lt e)
/-- The ring where only the book has changed. -/
theorem RingAt.foot (h : RingAt w r p o k s m MA c start ys xs) (hB : BookAt w p b q) (hu : Upd (q.Foot p) w w') : RingAt w' r p o k s m MA c start ys xs :=
  h.frame (hu.block _ h.lt (h.ring_foot hB)) (fun mb e => hu.block _ (h.mem_lt e).lt (row_foot hB (h.mem_lt e)))
end

theorem ring_cells {w : World} {r p : Nat} {o k s m : Int} {cl : Bool} {mem : Value} {start len : Int} (h : w.heap[r]? = some (ringCells p o k s m cl mem start len)) :
    w.cell? ⟨r, 0, none⟩ = some (.pointer (some ⟨p, 0, none⟩)) ∧ w.cell? ⟨r, 1, none⟩ = some (.int .i64 o) ∧ w.cell? ⟨r, 2, none⟩ = some (.int .i64 k) ∧ w.cell? ⟨r, 3, none⟩ = some (.int .i64 s) ∧ w.cell? ⟨r, 4, none⟩ = some (.int .i64 m) ∧ w.cell? ⟨r, 5, none⟩ = some (.bool cl) ∧ w.cell? ⟨r, 6, none⟩ = some mem ∧ w.cell? ⟨r, 7, none⟩ = some (.int .i64 start) ∧ w.cell? ⟨r, 8, none⟩ = some (.int .i64 len) := by
  refine ⟨?_, ?_, ?_, ?_, ?_, ?_, ?_, ?_, ?_⟩ <;> rw [blk_cell h] <;> rfl

set_option maxHeartbeats 1000000 in
set_option maxRecDepth 100000 in
theorem made8 (n : Nat) (hn : n ≤ 100000) (w : World) : Calls Try.prog 31 #[.int .i64 n, .int .i64 n] w fun e w' => ∃ g, e = .returned (.tuple #[.slice (some ⟨g, 0, none⟩) n n, .int .i64 0]) ∧ w.heap.size ≤ g ∧ Row w' g (List.replicate n 0) ∧ Below w.heap.size w w' := by
  have hd : decide ((0 : Int) ≤ (n : Int) ∧ (n : Int) ≤ 100000) = true := decide_eq_true (by omega)
  have hd2 : decide ((0 : Int) ≤ (n : Int) ∧ (n : Int) ≤ (n : Int)) = true := decide_eq_true (by omega)
  have hmk := makeU8 n n (Nat.le_refl _) (by omega)
  go_enter Try.func31, Try.ntmps31
  go_wp2_with (go_at_call 39; refine (withinR _ _ _ _).mono ?_; rintro e w1 ⟨rfl, m1, rfl⟩; first | rw [hd] | rw [hd2])
  go_ret2
  exact ⟨w.heap.size, rfl, Nat.le_refl _, blk_new _ _, below_alloc (pw_below_drewN (Below.refl _ _) _) _⟩

theorem ring_still {w : World} {r p : Nat} {o k s m : Int} {MA : Option Addr} {c start : Nat} {ys xs : List Int} {b : BookS} {q : Parts} (hR : RingAt w r p o k s m MA c start ys xs) (hB : BookAt w p b q) : ∀ (b' : BookS) (w' : World), Book.Leaves w.drew w' p q b' → w'.cell? ⟨r, 0, none⟩ = some (.pointer (some ⟨p, 0, none⟩)) ∧ w'.cell? ⟨r, 1, none⟩ = some (.int .i64 o) ∧ w'.cell? ⟨r, 6, none⟩ = some (.slice MA c c) := by
  intro b' w' ⟨q', _, hu, _⟩
  have hu' : Upd (q.Foot p) w.drew w' := hu
  have h : w'.heap[r]? = some _ := (hu'.block _ hR.lt (hR.ring_foot hB)).trans hR.head
  obtain ⟨h0, h1, _, _, _, _, h6, _, _⟩ := ring_cells h
  exact ⟨h0, h1, h6⟩

set_option maxHeartbeats 1000000 in
set_option maxRecDepth 100000 in
theorem move_bad {w : World} {r p : Nat} {o k s m : Int} {MA : Option Addr} {c start : Nat} {ys xs : List Int} {b : BookS} {q : Parts} (hR : RingAt w r p o k s m MA c start ys xs) (hB : BookAt w p b q) (hok : b.OK) (size : Nat) (B : Option Addr) (n cap : Nat) (he : changeErr b o c size ≠ 0) :
    Calls Try.prog 41 #[.pointer (some ⟨r, 0, none⟩), .int .i64 size, .slice B n cap] w fun e w' => e = .returned (.int .i64 (changeErr b o c size)) ∧ Book.Leaves w w' p q b := by
  obtain ⟨h0, h1, h2, h3, h4, h5, h6, h7, h8⟩ := ring_cells hR.head
  have HC := Aside0.mk (change_bad (w := w.drew) (hB.frame (fun k hk => rfl)) hok o c size he)
  have HB := Aside0.mk hB
  have HS := Aside0.mk (ring_still hR hB)
  obtain ⟨E, hE⟩ : ∃ E, E = changeErr b o c size := ⟨_, rfl⟩
  rw [← hE] at HC he ⊢
  have hd : (E != 0) = true := by simp [he]
  clear hE he hR hB hok
  go_enter Try.func41, Try.ntmps41
  go_wp2_with fail
  go_cut [7] (fun s7 wx => s7 = .int .i64 E ∧ Aside0 (Book.Leaves w wx p q b))
  case first =>
    go_region_held3 (fun w' => w'.cell? ⟨r, 0, none⟩ = some (.pointer (some ⟨p, 0, none⟩)) ∧ w'.cell? ⟨r, 1, none⟩ = some (.int .i64 o) ∧ w'.cell? ⟨r, 6, none⟩ = some (.slice MA c c)) (first | exact ⟨h0, h1, h6⟩ | exact HS.out _ _ HL.out) ((go_at_call 48; refine HC.out.mono ?_; rintro e w1 ⟨rfl, hl⟩; have HL := Aside0.mk hl; clear hl))
    all_goals
      go_wp2_with fail
      go_meet
      exact ⟨rfl, ⟨leaves_then HB.out (below_drew (Below.refl _ _)) HL.out⟩⟩
  case rest =>
    obtain ⟨rfl, HL⟩ := hcut
    go_wp2_with fail
    go_ret
    exact ⟨rfl, HL.out⟩

/-- What a move leaves. -/
structure Moved (w w' : World) (r p : Nat) (o k s m : Int) (c size : Nat) (zs : List Int) (b : BookS) (q : Parts) (g : Nat) (i : Nat) (x : Int × Acc) (q' : Parts) : Prop where
  acc : b.accs[i]? = some x ∧ x.1 = o ∧ b.acc o = some x.2
  book : BookAt w' p (b.hold i o ((size : Int) - c)) q'
  ok : (b.hold i o ((size : Int) - c)).OK
  ring : RingAt w' r p o k s m (some ⟨g, 0, none⟩) size 0 (zs ++ List.replicate (size - zs.length) 0) zs
  young : w.heap.size ≤ g
  upd : Upd (fun j => j = r ∨ q.Foot p j) w w'
  foot : ∀ j, q'.Foot p j → q.Foot p j ∨ w.heap.size ≤ j

theorem move_done {w w1 w2 w3 : World} {r p : Nat} {o k s m : Int} {MA : Option Addr} {c start size g : Nat} {ys xs zs : List Int} {b b' : BookS} {q q' : Parts} (hR : RingAt w r p o k s m MA c start ys xs) (hB : BookAt w p b q) (hs : size ≤ 100000) (h0 : 0 < size) (hz : zs.length ≤ size)
    (hB1 : BookAt w1 p b' q') (hu1 : Upd (q.Foot p) w w1) (hf1 : ∀ j, q'.Foot p j → q.Foot p j ∨ w.heap.size ≤ j)
    (hg : w1.heap.size ≤ g) (hb2 : Below w1.heap.size w1 w2) (hg2 : Row w2 g (List.replicate size 0))
    (hr3 : Row w3 g (zs ++ List.replicate (size - zs.length) 0)) (hu3 : Upd (fun j => j = g) (w2.setCell ⟨r, 6, none⟩ (.slice (some ⟨g, 0, none⟩) size size)) w3) :
    BookAt ((w3.setCell ⟨r, 7, none⟩ (.int .i64 0)).setCell ⟨r, 8, none⟩ (.int .i64 zs.length)) p b' q' ∧
    RingAt ((w3.setCell ⟨r, 7, none⟩ (.int .i64 0)).setCell ⟨r, 8, none⟩ (.int .i64 zs.length)) r p o k s m (some ⟨g, 0, none⟩) size 0 (zs ++ List.replicate (size - zs.length) 0) zs ∧
    Upd (fun j => j = r ∨ q.Foot p j) w ((w3.setCell ⟨r, 7, none⟩ (.int .i64 0)).setCell ⟨r, 8, none⟩ (.int .i64 zs.length)) ∧ w.heap.size ≤ g := by
  have hrw := hR.lt
  have hrf := hR.ring_foot hB
  have hrg : r ≠ g := by have := hu1.size; omega
  have e1 : w1.heap[r]? = some (ringCells p o k s m false (.slice MA c c) start xs.length) := (hu1.block _ hR.lt hrf).trans hR.head
  have e2 : w2.heap[r]? = some (ringCells p o k s m false (.slice MA c c) start xs.length) := (hb2.block _ (blk_lt e1)).trans e1
  have e3 := blk_set e2 6 (.slice (some ⟨g, 0, none⟩) size size)
  have e4 := (hu3.block _ (blk_lt e3) hrg).trans e3
  have e5 := blk_set (blk_set e4 7 (.int .i64 0)) 8 (.int .i64 zs.length)
  have hU : Upd (fun j => j = r ∨ q.Foot p j) w ((w3.setCell ⟨r, 7, none⟩ (.int .i64 0)).setCell ⟨r, 8, none⟩ (.int .i64 zs.length)) := by
    have a1 : Upd (fun j => j = r ∨ q.Foot p j) w w2 := (hu1.mono (fun j hj => .inr hj)).then (Upd.of_below (S := fun _ => False) hb2) (fun k hk => hk.elim)
    have a2 := a1.setCell ⟨r, 6, none⟩ (.inl (.inl rfl)) (.slice (some ⟨g, 0, none⟩) size size)
    have a3 := a2.then hu3 (fun k hk => .inr (by have := hu1.size; omega))
    exact (a3.setCell ⟨r, 7, none⟩ (.inl (.inl rfl)) _).setCell ⟨r, 8, none⟩ (.inl (.inl rfl)) _
  refine ⟨?_, ?_, hU, by have := hu1.size; omega⟩
  · have hrf' : ¬ q'.Foot p r := fun h => by
      rcases hf1 _ h with h | h
      · exact hrf h
      · omega
    refine hB1.frame (fun j hj => ?_)
    have hjl := hB1.lt hj
    have hjr : j ≠ r := fun e => hrf' (e ▸ hj)
    rw [Upd.block (S := fun j => j = r) (((Upd.refl (fun j => j = r) w3).setCell ⟨r, 7, none⟩ (.inl rfl) _).setCell ⟨r, 8, none⟩ (.inl rfl) _) j (by have := hu3.size; have := hb2.size; simp at this ⊢; simp at *; omega) hjr]
    rw [hu3.block j (by have := hb2.size; simp; omega) (by omega)]
    rw [Upd.block (S := fun j => j = r) ((Upd.refl (fun j => j = r) w2).setCell ⟨r, 6, none⟩ (.inl rfl) _) j (by have := hb2.size; omega) hjr]
    exact hb2.block j hjl
  · have hrow : Row ((w3.setCell ⟨r, 7, none⟩ (.int .i64 0)).setCell ⟨r, 8, none⟩ (.int .i64 zs.length)) g (zs ++ List.replicate (size - zs.length) 0) := (hr3.far ⟨r, 7, none⟩ (Ne.symm hrg) _).far ⟨r, 8, none⟩ (Ne.symm hrg) _
    exact ⟨by rw [e5]; rfl, .inr ⟨g, rfl, hrow⟩, by simp; omega, hs, hz, .inl h0, take_new _ _, hR.pol⟩

set_option maxHeartbeats 1000000 in
set_option maxRecDepth 100000 in
theorem move_ok {w : World} {r p : Nat} {o k s m : Int} {MA : Option Addr} {c start : Nat} {ys xs : List Int} {b : BookS} {q : Parts} (hR : RingAt w r p o k s m MA c start ys xs) (hB : BookAt w p b q) (hok : b.OK) (size : Nat) (hs : size ≤ 100000) (hcs : c < size) (B : Option Addr) (cap : Nat) (zs : List Int) (hz : ReadsInt w .u8 B zs.length zs) (hzs : zs.length ≤ size) (hbf : ∀ ad, B = some ad → ad.block ≠ r ∧ ¬ q.Foot p ad.block) (he : changeErr b o c size = 0) :
    Calls Try.prog 41 #[.pointer (some ⟨r, 0, none⟩), .int .i64 size, .slice B zs.length cap] w fun e w' => e = .returned (.int .i64 0) ∧ ∃ g i x q', Moved w w' r p o k s m c size zs b q g i x q' := by
  obtain ⟨h0, h1, h2, h3, h4, h5, h6, h7, h8⟩ := ring_cells hR.head
  have HC := Aside0.mk (change_ok (w := w.drew) (hB.frame (fun k hk => rfl)) hok o c size he)
  have HR := Aside0.mk hR
  have HB := Aside0.mk hB
  have HOK := Aside0.mk hok
  have HZ := Aside0.mk hz
  have HBF := Lib.hid hbf
  have hne : ¬ (c : Int) = size := by omega
  have HS := Aside0.mk (ring_still hR hB)
  clear he hR hB hok hz hbf
  go_enter Try.func41, Try.ntmps41
  go_wp2_with fail
  go_cut [7] (fun s7 wx => s7 = .int .i64 0 ∧ ∃ i x, b.accs[i]? = some x ∧ x.1 = o ∧ b.acc o = some x.2 ∧ Aside0 ((c : Int) ≤ x.2.held ∧ (size : Int) - c ≤ leftS b x.2) ∧ Aside0 (Book.Leaves w wx p q (b.hold i o ((size : Int) - c))))
  case first =>
    go_region_held3 (fun w' => w'.cell? ⟨r, 0, none⟩ = some (.pointer (some ⟨p, 0, none⟩)) ∧ w'.cell? ⟨r, 1, none⟩ = some (.int .i64 o) ∧ w'.cell? ⟨r, 6, none⟩ = some (.slice MA c c)) (first | exact ⟨h0, h1, h6⟩ | exact HS.out _ _ HL.out) ((go_at_call 48; refine HC.out.mono ?_; rintro e w1 ⟨rfl, i, x, i1, i2, i3, i4, i5, hl⟩; rw [if_neg hne] at hl; have HL := Aside0.mk hl; have HI := Aside0.mk (And.intro i1 (And.intro i2 (And.intro i3 (And.intro i4 i5)))); clear hl i1 i2 i3 i4 i5))
    all_goals
      go_wp2_with fail
      go_meet
      exact ⟨rfl, i, x, HI.out.1, HI.out.2.1, HI.out.2.2.1, ⟨HI.out.2.2.2⟩, ⟨leaves_then HB.out (below_drew (Below.refl _ _)) HL.out⟩⟩
  case rest =>
    obtain ⟨rfl, i, x, i1, i2, i3, hle, hl⟩ := hcut
    have HI := Aside0.mk (And.intro i1 (And.intro i2 i3))
    have HK : Aside0 (b.hold i o ((size : Int) - c)).OK := ⟨hold_OK HOK.out i1 o _ (by have h9 := hle.out.1; omega) hle.out.2⟩
    obtain ⟨q', l1, l2, l3⟩ := hl.out
    have HL1 := Aside0.mk l1
    have HL2 := Aside0.mk l2
    have HL3 := Lib.hid l3
    have hrw := HR.out.lt
    have hrf := HR.out.ring_foot HB.out
    have HE1 := Aside0.mk ((l2.block _ hrw hrf).trans HR.out.head)
    have HZ1 := Aside0.mk (reads_upd HZ.out l2 (fun ad e _ => (HBF.out ad e).2))
    clear i1 i2 i3 l1 l2 l3 hrf hle hl HC
    go_wp2_with fail
    refine (made8 size hs wc).mono ?_
    rintro e w2 ⟨g, rfl, hg, hrow, hb2⟩
    have HG := Aside0.mk hrow
    have HB2 := Aside0.mk hb2
    have he2 := (hb2.block _ (blk_lt HE1.out)).trans HE1.out
    have hrg : r ≠ g := by have := blk_lt HE1.out; omega
    have hf6 : w2.frozen? ⟨r, 6, none⟩ = false := blk_frozen he2 6
    have hc6 : w2.cell? ⟨r, 6, none⟩ = some (.slice MA c c) := by rw [blk_cell he2]; rfl
    have he3 := blk_set he2 6 (.slice (some ⟨g, 0, none⟩) size size)
    have hm6 : (w2.setCell ⟨r, 6, none⟩ (.slice (some ⟨g, 0, none⟩) size size)).cell? ⟨r, 6, none⟩ = some (.slice (some ⟨g, 0, none⟩) size size) := by rw [blk_cell he3]; rfl
    have hf7 : ∀ w3, Upd (fun j => j = g) (w2.setCell ⟨r, 6, none⟩ (.slice (some ⟨g, 0, none⟩) size size)) w3 → w3.frozen? ⟨r, 7, none⟩ = false ∧ w3.cell? ⟨r, 7, none⟩ = some (.int .i64 start) ∧ ∀ v, (w3.setCell ⟨r, 7, none⟩ v).frozen? ⟨r, 8, none⟩ = false ∧ (w3.setCell ⟨r, 7, none⟩ v).cell? ⟨r, 8, none⟩ = some (.int .i64 xs.length) := fun w3 hu => by
      have e4 := (hu.block _ (blk_lt he3) hrg).trans he3
      exact ⟨blk_frozen e4 7, by rw [blk_cell e4]; rfl, fun v => ⟨blk_frozen (blk_set e4 7 v) 8, by rw [blk_cell (blk_set e4 7 v)]; rfl⟩⟩
    have HF7 := Lib.hid hf7
    have HZ2 : Aside0 (ReadsInt (w2.setCell ⟨r, 6, none⟩ (.slice (some ⟨g, 0, none⟩) size size)) .u8 B zs.length zs) := ⟨reads_upd (HZ1.out.below hb2) ((Upd.refl (fun j => j = r) _).setCell ⟨r, 6, none⟩ (.inl rfl) _) (fun ad e _ => (HBF.out ad e).1)⟩
    have HG2 : Aside0 (Row (w2.setCell ⟨r, 6, none⟩ (.slice (some ⟨g, 0, none⟩) size size)) g (List.replicate size 0)) := ⟨hrow.far ⟨r, 6, none⟩ (Ne.symm hrg) _⟩
    have HHG := Lib.hid hg
    clear hg hrow hb2 he2 he3 hf7 hrw
    go_wp2_with ((with_reducible refine gate_builtin (b := .copy) (xs := #[.tmp 40, .tmp 41]) rfl ?_); refine wpList_copy8 rfl (.tmp 40) (.tmp 41) rfl (some ⟨g, 0, none⟩) B size size zs.length cap rfl rfl g 0 (List.replicate size 0) zs HG2.out (Nat.min_eq_left hzs).symm (fun _ => ⟨rfl, HZ2.out⟩) (by simpa using hzs) ?_; intro w3 HG3 HU3 hz3; obtain ⟨hf71, hf73, hf72⟩ := HF7.out w3 HU3.out; have hf74 := (hf72 (.int .i64 0)).1; have hf75 := (hf72 (.int .i64 0)).2)
    go_ret
    have hr3 : Row w3 g (zs ++ List.replicate (size - zs.length) 0) := by
      have h := HG3.out
      simpa using h
    obtain ⟨d1, d2, d3, d4⟩ := move_done HR.out HB.out hs (by omega) hzs HL1.out HL2.out HL3.out HHG.out HB2.out HG.out hr3 HU3.out
    exact ⟨rfl, g, i, x, q', HI.out, d1, HK.out, d2, d4, d3, HL3.out⟩
end Go.Proofs.Ytmellidlnggldaa.Ring
