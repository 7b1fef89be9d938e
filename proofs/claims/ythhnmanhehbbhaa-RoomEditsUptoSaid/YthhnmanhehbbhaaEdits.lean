/- RoomEdits: edits of a slice are those of a plain string. -/
import Derived.Test.YthhnmanhehbbhaaRepl
namespace Go.Proofs.Ythhnmanhehbbhaa.Oct
open Go.RowKit Go.Proofs.YthhnmanhehbbhaaW.PrintWords Go.Proofs.YthhnmanhehbbhaaW.PrintLast Go.Proofs.YthhnmanhehbbhaaW.PrintMore Go.Proofs.Ythhnmanhehbbhaa.Book Go.Proofs.Ythhnmanhehbbhaa.Pure
set_option linter.unusedSimpArgs false
set_option linter.unusedVariables false

theorem awake (w : World) : Calls Try.prog 22 #[] w fun e w' => e = .returned (.bool true) ∧ Below w.heap.size w w' :=
  PRoomEdits.cornkeep1_awakeRoom.calls 1 true w (rg_awake 1)

set_option maxHeartbeats 1000000 in
set_option maxRecDepth 100000 in
theorem copied_ok (A : Option Addr) (m c r : Nat) (xs : List Int) (w : World) (hr : ReadsInt w .u8 A m xs) (hmr : m ≤ r) (hrr : r ≤ 100000) :
    Calls Try.prog 24 #[.slice A m c, .int .i64 r] w fun e w' => ∃ g, e = .returned (.tuple #[.slice (some ⟨g, 0, none⟩) m r, .int .i64 0]) ∧ w.heap.size ≤ g ∧ Row w' g (xs ++ List.replicate (r - m) 0) ∧ Below w.heap.size w w' := by
  have HR := Aside0.mk hr
  have hd1 : decide (100000 < (m : Int)) = false := decide_eq_false (by omega)
  have hd2 : decide (0 ≤ (r : Int) ∧ (r : Int) ≤ 100000) = true := decide_eq_true (by omega)
  have hd3 : decide (r < m) = false := decide_eq_false (by omega)
  have HD2 := Lib.hid hd2
  clear hr hd2
  go_enter Try.func24, Try.ntmps24
  go_wp2_with (go_at_call 128; refine (withinR _ _ _ _).mono ?_; rintro e w1 ⟨rfl, m1, rfl⟩; rw [HD2.out])
  refine (copied8 A m c m r xs _ (HR.out.drewN _) (Nat.le_refl _) hmr (by omega)).mono ?_
  rintro e w2 ⟨rfl, hrow, hb2⟩
  have HRow := Aside0.mk hrow
  have HB2 := Aside0.mk hb2
  clear hrow hb2
  go_wp2_with fail
  go_ret2
  exact ⟨w.heap.size, rfl, Nat.le_refl _, HRow.out, below_then (pw_below_drewN (Below.refl _ _) _) (Nat.le_refl _) HB2.out⟩

/-- The guard of the law. -/
def editsOn (n : Nat) (room m : Int) (f : Int) (E M : Nat) : Prop := (n : Int) ≤ room ∧ room ≤ 100000 ∧ 1000 ≤ m ∧ f = 0 ∧ n + E * M ≤ 900

set_option maxHeartbeats 2000000 in
set_option maxRecDepth 100000 in
theorem edits_skip (k s m : Int) (A EA OA : Option Addr) (n c E ec M oc : Nat) (room : Int) (w : World) (hn : n ≤ 1048576) (hE : E ≤ 1048576) (hM : M ≤ 1048576) (hoff : ¬ editsOn n room m (rgFault k s m) E M) :
    Calls Try.prog 4 #[.agg #[.int .i64 k, .int .i64 s, .int .i64 m], .slice A n c, .int .i64 room, .slice EA E ec, .slice OA M oc] w fun e w' => e = .returned (.bool true) ∧ Below w.heap.size w w' := by
  have hEM : E * M ≤ 1099511627776 := Nat.mul_le_mul hE hM
  have hEMI : (E : Int) * (M : Int) = ((E * M : Nat) : Int) := by push_cast; rfl
  obtain ⟨EM, hEM2⟩ : ∃ EM : Nat, EM = E * M := ⟨_, rfl⟩
  unfold editsOn at hoff
  rw [← hEM2] at hEM hEMI hoff
  have HF : Aside0 (∀ u : World, Calls Try.prog 23 #[.agg #[.int .i64 k, .int .i64 s, .int .i64 m]] u fun e w' => e = .returned (.int .i64 (rgFault k s m)) ∧ Below u.heap.size u w') := ⟨checkPolicy k s m⟩
  have hd : decide (room < (n : Int)) = true ∨ (decide (room < (n : Int)) = false ∧ decide (100000 < room) = true) ∨ (decide (room < (n : Int)) = false ∧ decide (100000 < room) = false ∧ decide (m < 1000) = true) ∨ (decide (room < (n : Int)) = false ∧ decide (100000 < room) = false ∧ decide (m < 1000) = false ∧ (rgFault k s m != 0) = true) ∨ (decide (room < (n : Int)) = false ∧ decide (100000 < room) = false ∧ decide (m < 1000) = false ∧ (rgFault k s m != 0) = false ∧ decide (900 < (n : Int) + (EM : Int)) = true) := by
    by_cases a1 : room < (n : Int)
    · exact .inl (decide_eq_true a1)
    · refine .inr ?_
      by_cases a2 : 100000 < room
      · exact .inl ⟨decide_eq_false a1, decide_eq_true a2⟩
      · refine .inr ?_
        by_cases a3 : m < 1000
        · exact .inl ⟨decide_eq_false a1, decide_eq_false a2, decide_eq_true a3⟩
        · refine .inr ?_
          by_cases a4 : rgFault k s m = 0
          · refine .inr ⟨decide_eq_false a1, decide_eq_false a2, decide_eq_false a3, by simp [a4], decide_eq_true ?_⟩
            by_cases a5 : n + EM ≤ 900
            · exact absurd ⟨by omega, by omega, by omega, a4, a5⟩ hoff
            · omega
          · exact .inl ⟨decide_eq_false a1, decide_eq_false a2, decide_eq_false a3, by simp [a4]⟩
  clear hoff hEM2
  generalize rgFault k s m = f at HF hd
  rcases hd with d1 | ⟨d1, d2⟩ | ⟨d1, d2, d3⟩ | ⟨d1, d2, d3, d4⟩ | ⟨d1, d2, d3, d4, d5⟩
  all_goals
    go_enter Try.func4, Try.ntmps4
    go_wp2_with fail
    refine (awake _).mono ?_
    rintro e w1 ⟨rfl, hb1⟩
    have HX1 := Aside0.mk (box_later hb1)
    have HB1 := Aside0.mk (below_then (below_alloc (Below.refl _ _) _) (by simp) hb1)
    obtain ⟨hx0, hx1, hx2⟩ := box_cells HX1.out
    clear hb1
    go_wp2_with (go_at_call 23; refine (HF.out _).mono ?_; rintro e w2 ⟨rfl, hb2⟩; have HB2 := Aside0.mk (below_then HB1.out HB1.out.size hb2); clear hb2)
    go_ret
    first | exact ⟨rfl, HB2.out⟩ | exact ⟨rfl, HB1.out⟩

theorem newRow_of {w W w' : World} {A : Option Addr} {n cap : Nat} {xs : List Int} (h : NewRow W w' A n cap xs) (hb : Below w.heap.size w W) : NewRow w w' A n cap xs :=
  ⟨h.reads, h.fits, below_then hb hb.size h.below, fun ad e => by
    obtain ⟨g, e1, h1, h2⟩ := h.young ad e
    exact ⟨g, e1, Nat.le_trans hb.size h1, h2⟩, h.nil⟩
/-- Concat of three pieces. -/
theorem concat3 (g : Nat) (p q r : Piece) (N : Nat) (w : World) (X : List Int) (L : List Piece) (hb : w.heap[g]? = some (.cells #[.slice p.A p.n p.c, .slice q.A q.n q.c, .slice r.A r.n r.c] 24)) (hr : ∀ p' ∈ L, ReadsInt w .u8 p'.A p'.n p'.xs) (hnil : ∀ p' ∈ L, p'.A = none → p'.n = 0 ∧ p'.c = 0) (hs : N ≤ 140737488355328) (hL : L = [p, q, r]) (hN : N = p.n + q.n + r.n) (hX : X = p.xs ++ q.xs ++ r.xs) :
    Calls Try.prog 27 #[.slice (some ⟨g, 0, none⟩) 3 3] w fun e w' => ∃ B cap, e = .returned (.slice B N cap) ∧ NewRow w w' B N cap X := by
  subst hL
  have h := concat8 g [p, q, r] w (by simpa [Piece.val] using hb) hr hnil (by simp) (by simp [lenOf]; omega)
  have e1 : lenOf [p, q, r] = N := by simp [lenOf]; omega
  have e2 : allOf [p, q, r] = X := by rw [hX]; simp [allOf]
  rw [e1, e2] at h
  exact h

/-- Replace, whether it moves or not. -/
structure Replaced (k s m : Int) (g c n : Nat) (w w' : World) (xs : List Int) (g2 r : Nat) (ys2 : List Int) : Prop where
  gives : rgGrow k s m c n = (↑r, 0)
  fits : n ≤ r
  small : r ≤ 100000
  row : Row w' g2 ys2
  full : ys2.length = r
  shows : ys2.take n = xs
  at_ : g2 = g ∨ w.heap.size ≤ g2
  upd : Upd (fun k => k = g) w w'
theorem replaced_of {k s m : Int} {g c n : Nat} {w W w' : World} {xs : List Int} {g2 r : Nat} {ys2 : List Int} (h : Replaced k s m g c n W w' xs g2 r ys2) (hb : Below w.heap.size w W) : Replaced k s m g c n w w' xs g2 r ys2 :=
  ⟨h.gives, h.fits, h.small, h.row, h.full, h.shows, h.at_.imp id (Nat.le_trans hb.size), (Upd.of_below hb).then h.upd (fun k hk => .inl hk)⟩
theorem replace8 (k s m : Int) (g l c fr te mo oc : Nat) (OA : Option Addr) (ys os : List Int) (w : World) (hf : rgFault k s m = 0) (hrow : Row w g ys) (hl : ys.length = c) (hlc : l ≤ c) (hc : c ≤ 100000) (h1 : fr ≤ te) (h2 : te ≤ l)
    (ho : ReadsInt w .u8 OA mo os) (hoc : OA = none → mo = 0 ∧ oc = 0) (hmo : mo ≤ 100000) (hn1 : l - (te - fr) + mo ≤ 100000) (hm : ((l - (te - fr) + mo : Nat) : Int) ≤ m) :
    Calls Try.prog 26 #[.agg #[.int .i64 k, .int .i64 s, .int .i64 m], .slice (some ⟨g, 0, none⟩) l c, .int .i64 fr, .int .i64 te, .slice OA mo oc] w fun e w' =>
      ∃ g2 r ys2, e = .returned (.tuple #[.slice (some ⟨g2, 0, none⟩) (l - (te - fr) + mo) r, .bool (!decide (r = c)), .int .i64 0]) ∧ Replaced k s m g c (l - (te - fr) + mo) w w' (ys.take fr ++ os ++ (ys.drop te).take (l - te)) g2 r ys2 := by
  obtain ⟨r, hr, a1, a2, a3, a4⟩ := grow_ok k s m c (l - (te - fr) + mo) hf hc hn1 (.inr hm)
  have hxl : (ys.take fr ++ os ++ (ys.drop te).take (l - te)).length = l - (te - fr) + mo := by have := ho.1; simp; omega
  by_cases hin : l - (te - fr) + mo ≤ c
  · obtain rfl := a4 hin
    refine (replace_in k s m g l r fr te mo oc OA ys os w hf hrow hl hlc hc h1 h2 ho hoc hmo hin).mono ?_
    rintro e w' ⟨zs, rfl, hro, hz, hu⟩
    exact ⟨g, r, _, by simp, hr, a1, a3, hro, by rw [List.length_append, hxl]; omega, by rw [← hxl, List.take_left], .inl rfl, hu⟩
  · refine (replace_moves k s m g l c fr te mo oc r OA ys os w hf hrow hl hlc hc h1 h2 ho hoc hmo (by omega) hn1 hr a1 a3).mono ?_
    rintro e w' ⟨g2, zs, rfl, hy, hro, hz, hb⟩
    have hne : decide (r = c) = false := decide_eq_false (by omega)
    exact ⟨g2, r, _, by rw [hne]; rfl, hr, a1, a3, hro, by rw [List.length_append, hxl]; omega, by rw [← hxl, List.take_left], .inr hy, Upd.of_below hb⟩

/-- A list of triples that reads. -/
def Triples (w : World) (EA : Option Addr) (E : Nat) (t : Nat → Int × Int × Int) : Prop := 0 < E → ∃ b o, EA = some ⟨b, o, none⟩ ∧ b < w.heap.size ∧ ∀ k, k < E → w.cell? ⟨b, o + k * 3, none⟩ = some (.int .i64 (t k).1) ∧ w.cell? ⟨b, o + k * 3 + 1, none⟩ = some (.int .i64 (t k).2.1) ∧ w.cell? ⟨b, o + k * 3 + 2, none⟩ = some (.int .i64 (t k).2.2)

structure EditsRel (W0 wr : World) (base g cap : Nat) (PA : Option Addr) (pc : Nat) (l ys : List Int) : Prop where
  row : Row wr g ys
  full : ys.length = cap
  shows : ys.take l.length = l
  fits : l.length ≤ cap
  small : cap ≤ 100000
  young : base ≤ g
  plain : ReadsInt wr .u8 PA l.length l
  pfits : l.length ≤ pc
  pyoung : ∀ ad, PA = some ad → base ≤ ad.block ∧ ad.block ≠ g
  pnil : PA = none → l.length = 0 ∧ pc = 0
  below : Below base W0 wr

theorem edit_same {ys os l : List Int} {fr mo te : Nat} (h : ys.take l.length = l) (h1 : fr ≤ l.length) (h2 : te ≤ l.length) : ys.take fr ++ os.take mo ++ (ys.drop te).take (l.length - te) = l.take fr ++ os.take mo ++ l.drop te := by
  have e1 : l.take fr = ys.take fr := by
    conv => lhs; rw [← h]
    rw [List.take_take, Nat.min_eq_left h1]
  have e2 : l.drop te = (ys.drop te).take (l.length - te) := by
    conv => lhs; rw [← h]
    rw [List.drop_take]
  rw [e1, e2]
theorem drop_reads {w : World} {A A3 : Option Addr} {n c te : Nat} {xs : List Int} (h : ReadsInt w .u8 A n xs) (h4 : te ≤ n) (hc : n ≤ c) (e : te < c → A3 = A.map (·.add te)) : ReadsInt w .u8 A3 (n - te) (xs.drop te) := by
  by_cases hlt : te < c
  · have := h.drop_ te h4 hc
    rw [if_neg (by omega)] at this
    rw [e hlt]; exact this
  · have : n - te = 0 := by omega
    have hx : xs.drop te = [] := List.drop_eq_nil_of_le (by have := h.1; omega)
    rw [this, hx]
    exact reads_nothing _ _ _
theorem edit_pieces {w W : World} {PA OA A3 : Option Addr} {n pc fr mo M oc te : Nat} {l os : List Int} (h : ReadsInt w .u8 PA n l) (ho : ReadsInt w .u8 OA M os) (h2 : fr ≤ n) (h5 : mo ≤ M) (h4 : te ≤ n) (hc : n ≤ pc) (e : te < pc → A3 = PA.map (·.add te)) (hb : Below w.heap.size w W) :
    ∀ p ∈ ([⟨PA, fr, pc, l.take fr⟩, ⟨OA, mo, oc, os.take mo⟩, ⟨A3, n - te, pc - te, l.drop te⟩] : List Piece), ReadsInt W .u8 p.A p.n p.xs := by
  intro p hp
  simp only [List.mem_cons, List.not_mem_nil, or_false] at hp
  rcases hp with rfl | rfl | rfl
  · exact (h.take_ fr h2).below hb
  · exact (ho.take_ mo h5).below hb
  · exact (drop_reads h h4 hc e).below hb
theorem edit_nils {PA OA A3 : Option Addr} {n pc fr mo M oc te : Nat} {l os : List Int} (h : PA = none → n = 0 ∧ pc = 0) (ho : OA = none → M = 0 ∧ oc = 0) (h2 : fr ≤ n) (h5 : mo ≤ M) (e : te < pc → A3 = PA.map (·.add te)) (h4 : te ≤ n) (hc : n ≤ pc) :
    ∀ p ∈ ([⟨PA, fr, pc, l.take fr⟩, ⟨OA, mo, oc, os.take mo⟩, ⟨A3, n - te, pc - te, l.drop te⟩] : List Piece), p.A = none → p.n = 0 ∧ p.c = 0 := by
  intro p hp
  simp only [List.mem_cons, List.not_mem_nil, or_false] at hp
  rcases hp with rfl | rfl | rfl
  · intro e; have := h e; simp only at *; omega
  · intro e; have := ho e; simp only at *; omega
  · intro e3
    simp only at *
    by_cases hlt : te < pc
    · rw [e hlt] at e3
      have := h (by simpa using e3)
      omega
    · omega

theorem edits_next {k s m : Int} {W0 wr wx wy w5 : World} {base g g2 cap r nn pc pc2 : Nat} {PA PB : Option Addr} {l ys ys2 X Z : List Int} (h : EditsRel W0 wr base g cap PA pc l ys) (hr : Replaced k s m g cap nn wr wx Z g2 r ys2) (hn : NewRow wx wy PB nn pc2 X) (hb : Below wy.heap.size wy w5) (e : Z = X) (hbase : base ≤ wr.heap.size) (hnil : PB = none → nn = 0 ∧ pc2 = 0) :
    EditsRel W0 w5 base g2 r PB pc2 X ys2 := by
  have hb2 := below_then hn.below hn.below.size hb
  have hxl : X.length = nn := hn.reads.1
  have hs := hr.upd.size
  have hy := h.young
  refine ⟨hr.row.below hb2, hr.full, by rw [hxl, hr.shows, e], by rw [hxl]; exact hr.fits, hr.small, ?_, by rw [hxl]; exact hn.reads.below hb, by rw [hxl]; exact hn.fits, fun ad e => ?_, by rw [hxl]; exact hnil, (Upd_below_of hr.upd h.below hbase (fun k hk => by omega)).trans (hb2.mono (by omega))⟩
  · rcases hr.at_ with h1 | h1 <;> omega
  · obtain ⟨g9, rfl, h9, _⟩ := hn.young ad e
    have := hr.row.lt
    exact ⟨by simp; omega, by simp; omega⟩

set_option maxHeartbeats 4000000 in
set_option maxRecDepth 100000 in
theorem edits_run (k s m : Int) (A EA OA : Option Addr) (n c E ec M oc room : Nat) (xs os : List Int) (t : Nat → Int × Int × Int) (w : World) (hn : n ≤ 1048576) (hE : E ≤ 1048576) (hM : M ≤ 1048576) (hr : ReadsInt w .u8 A n xs) (hAn : A = none → n = 0 ∧ c = 0) (ho : ReadsInt w .u8 OA M os) (hOn : OA = none → M = 0 ∧ oc = 0) (hMc : M ≤ oc) (hEc : E ≤ ec) (ht : Triples w EA E t)
    (h1 : n ≤ room) (h2 : room ≤ 100000) (h3 : 1000 ≤ m) (hf : rgFault k s m = 0) (h4 : n + E * M ≤ 900) :
    Calls Try.prog 4 #[.agg #[.int .i64 k, .int .i64 s, .int .i64 m], .slice A n c, .int .i64 room, .slice EA E ec, .slice OA M oc] w fun e w' => e = .returned (.bool true) ∧ Below w.heap.size w w' := by
  have hEMI : (E : Int) * (M : Int) = ((E * M : Nat) : Int) := by push_cast; rfl
  obtain ⟨EM, hEM2⟩ : ∃ EM : Nat, EM = E * M := ⟨_, rfl⟩
  rw [← hEM2] at hEMI h4
  have HEM := Lib.hid hEM2
  have HF := Lib.hid hf
  have HR := Aside0.mk hr
  have HO := Aside0.mk ho
  have HAN := Lib.hid hAn
  have HON := Lib.hid hOn
  have HT := Aside0.mk ht
  have d1 : decide (room < n) = false := decide_eq_false (by omega)
  have d2 : decide (100000 < (room : Int)) = false := decide_eq_false (by omega)
  have d3 : decide (m < 1000) = false := decide_eq_false (by omega)
  have d5 : decide (900 < (n : Int) + (EM : Int)) = false := decide_eq_false (by omega)
  clear hEM2 hf hr ho hAn hOn ht
  go_enter Try.func4, Try.ntmps4
  go_wp2_with fail
  refine (awake _).mono ?_
  rintro e w1 ⟨rfl, hb1⟩
  have HX1 := Aside0.mk (box_later hb1)
  have HB1 := Aside0.mk hb1
  obtain ⟨hx0, hx1, hx2⟩ := box_cells HX1.out
  clear hb1
  go_wp2_with (go_at_call 23; refine (checkPolicy k s m _).mono ?_; rintro e w2 ⟨rfl, hb2⟩; rw [HF.out]; have HB2 := Aside0.mk (below_then HB1.out HB1.out.size hb2); clear hb2)
  have hbase : (w.alloc (.cells #[.int .i64 k, .int .i64 s, .int .i64 m] 23)).heap.size = w.heap.size + 1 := alloc_size _ _
  have HBase := Lib.hid hbase
  have HW02 := Aside0.mk (below_then (below_alloc (Below.refl w.heap.size w) _) (by rw [hbase]; omega) HB2.out)
  clear hbase hx0 hx1 hx2 HB1
  refine (copied_ok A n c room xs w2 (HR.out.below HW02.out) h1 h2).mono ?_
  rintro e w3 ⟨g, rfl, hg, hrow, hb3⟩
  have HG3 := Aside0.mk hrow
  have HB3 := Aside0.mk (below_then HB2.out HB2.out.size hb3)
  have HY3 := Lib.hid (Nat.le_trans HB2.out.size hg)
  have HW03 := Aside0.mk (below_then HW02.out HW02.out.size hb3)
  clear hg hrow hb3
  go_wp2_with fail
  refine (clone8 A n c xs w3 (HR.out.below HW03.out) (by omega) HAN.out).mono ?_
  rintro e w4 ⟨PA, pc, rfl, hnew⟩
  have HNW := Aside0.mk hnew
  have HB4 := Aside0.mk (below_then HB3.out HB3.out.size hnew.below)
  clear hnew
  go_wp2_with fail
  have HREL : Aside0 (EditsRel (w.alloc (.cells #[.int .i64 k, .int .i64 s, .int .i64 m] 23)) w4 (w.heap.size + 1) g room PA pc xs (xs ++ List.replicate (room - n) 0)) := by
    have hl := HR.out.1
    have hlt := HG3.out.lt
    have e1 := HBase.out
    have e2 := HY3.out
    rw [e1] at e2
    refine ⟨HG3.out.below HNW.out.below, by simp; omega, by rw [List.take_left], by omega, h2, by omega, by rw [hl]; exact HNW.out.reads, by rw [hl]; exact HNW.out.fits, fun ad e => ?_, fun e => ?_, e1 ▸ HB4.out⟩
    · obtain ⟨g9, rfl, hy, _⟩ := HNW.out.young ad e
      exact ⟨by simp; omega, by simp; omega⟩
    · have := HNW.out.nil e
      omega
  clear HG3 HNW HB4 HB3 HW03 HB2 d1 d2 d5
  go_loopw [11, 13, 15, 16, 17, 18, 19, 20, 21, 22, 23, 24, 25, 69] (fun x p _ _ _ _ _ _ _ _ _ _ _ i (wr : World) => ∃ (k' : Nat) (g cap : Nat) (PA : Option Addr) (pc : Nat) (l ys : List Int), k' ≤ E ∧ i = .int .i64 k' ∧ x = .slice (some ⟨g, 0, none⟩) l.length cap ∧ p = .slice PA l.length pc ∧ l.length ≤ n + k' * M ∧ Aside0 (EditsRel (w.alloc (.cells #[.int .i64 k, .int .i64 s, .int .i64 m] 23)) wr (w.heap.size + 1) g cap PA pc l ys)) (fun _ _ _ _ _ _ _ _ _ _ _ _ _ i _ => E - (intOf i).toNat)
  case atStart =>
    have hl := HR.out.1
    exact ⟨0, g, room, PA, pc, xs, _, Nat.zero_le _, rfl, by rw [hl], by rw [hl], by omega, HREL⟩
  case round =>
    obtain ⟨i, g, cap, PA, pc, l, ys, hi, rfl, rfl, rfl, hlen, HE⟩ := hrel
    clear HREL
    by_cases hlt : i < E
    · obtain ⟨b, o, rfl, hbl, hcells⟩ := HT.out (by omega)
      have hc := hcells i hlt
      generalize t i = tr at hc
      obtain ⟨k0, k1, k2⟩ := tr
      have hc0 : wr.cell? ⟨b, o + i * 3, none⟩ = some (.int .i64 k0) := by rw [← hc.1]; exact HE.out.below.cell (p := ⟨b, _, none⟩) (by simp; omega) |>.trans (Below.cell (below_alloc (Below.refl w.heap.size w) _) (p := ⟨b, _, none⟩) hbl)
      have hc1 : wr.cell? ⟨b, o + i * 3 + 1, none⟩ = some (.int .i64 k1) := by rw [← hc.2.1]; exact HE.out.below.cell (p := ⟨b, _, none⟩) (by simp; omega) |>.trans (Below.cell (below_alloc (Below.refl w.heap.size w) _) (p := ⟨b, _, none⟩) hbl)
      have hc2 : wr.cell? ⟨b, o + i * 3 + 2, none⟩ = some (.int .i64 k2) := by rw [← hc.2.2]; exact HE.out.below.cell (p := ⟨b, _, none⟩) (by simp; omega) |>.trans (Below.cell (below_alloc (Below.refl w.heap.size w) _) (p := ⟨b, _, none⟩) hbl)
      have hiI : (0 : Int) ≤ (i : Int) := by omega
      have hiE : (i : Int) < (E : Int) := by omega
      have hsm : l.length ≤ 900 := by have a := Nat.mul_le_mul_right M (show i ≤ E by omega); have := HEM.out; omega
      have q0 := Int.lt_tmod_of_pos k0 (show (0 : Int) < (l.length : Int) + 1 by omega)
      have q1 := Int.tmod_lt_of_pos k0 (show (0 : Int) < (l.length : Int) + 1 by omega)
      clear hcells hc
      go_upto_region 14 with fail
      generalize hfr : (k0.tmod ((l.length : Int) + 1) + (l.length : Int) + 1) % ((l.length : Int) + 1) = F
      have f0 : 0 ≤ F := by rw [← hfr]; exact Int.emod_nonneg _ (by omega)
      have f1 : F < (l.length : Int) + 1 := by rw [← hfr]; exact Int.emod_lt_of_pos _ (by omega)
      clear hfr q0 q1
      obtain ⟨fr, rfl⟩ := Int.eq_ofNat_of_zero_le f0
      have f2 : fr ≤ l.length := by omega
      have q0 := Int.lt_tmod_of_pos k1 (show (0 : Int) < (l.length : Int) - (fr : Int) + 1 by omega)
      have q1 := Int.tmod_lt_of_pos k1 (show (0 : Int) < (l.length : Int) - (fr : Int) + 1 by omega)
      have f0 : 0 ≤ (k1.tmod ((l.length : Int) - (fr : Int) + 1) + (l.length : Int) - (fr : Int) + 1) % ((l.length : Int) - (fr : Int) + 1) := Int.emod_nonneg _ (by omega)
      have f1 : (k1.tmod ((l.length : Int) - (fr : Int) + 1) + (l.length : Int) - (fr : Int) + 1) % ((l.length : Int) - (fr : Int) + 1) < (l.length : Int) - (fr : Int) + 1 := Int.emod_lt_of_pos _ (by omega)
      go_upto_region 15 with fail
      generalize hte : (fr : Int) + (k1.tmod ((l.length : Int) - (fr : Int) + 1) + (l.length : Int) - (fr : Int) + 1) % ((l.length : Int) - (fr : Int) + 1) = F
      obtain ⟨te, rfl⟩ : ∃ te : Nat, F = te := ⟨F.toNat, by omega⟩
      have f3 : fr ≤ te := by omega
      have f4 : te ≤ l.length := by omega
      clear hte q0 q1 f0 f1
      have q0 := Int.lt_tmod_of_pos k2 (show (0 : Int) < (M : Int) + 1 by omega)
      have q1 := Int.tmod_lt_of_pos k2 (show (0 : Int) < (M : Int) + 1 by omega)
      go_upto_region 16 with fail
      generalize hmo : (k2.tmod ((M : Int) + 1) + (M : Int) + 1) % ((M : Int) + 1) = F
      have f0 : 0 ≤ F := by rw [← hmo]; exact Int.emod_nonneg _ (by omega)
      have f1 : F < (M : Int) + 1 := by rw [← hmo]; exact Int.emod_lt_of_pos _ (by omega)
      clear hmo q0 q1
      obtain ⟨mo, rfl⟩ := Int.eq_ofNat_of_zero_le f0
      have f5 : mo ≤ M := by omega
      clear f0 f1
      go_upto_region 17 with fail
      have hbx : wr.heap[w.heap.size]? = some (.cells #[.int .i64 k, .int .i64 s, .int .i64 m] 23) := (HE.out.below.block _ (by omega)).trans (blk_new w _)
      have HBX := Aside0.mk hbx
      obtain ⟨hx0, hx1, hx2⟩ := box_cells hbx
      have hsl := sub_to OA M oc mo ↑mo rfl f5 hMc
      have hob : Below w.heap.size w wr := (below_alloc (Below.refl w.heap.size w) _).trans (HE.out.below.mono (by omega))
      have HOB := Aside0.mk hob
      have hcl := HE.out.fits
      have hcs := HE.out.small
      have hnew : i * M + M ≤ E * M := by have := Nat.mul_le_mul_right M (show i + 1 ≤ E by omega); rw [Nat.add_mul] at this; omega
      have hnn : l.length - (te - fr) + mo ≤ 900 := by have := HEM.out; omega
      have hm9 : mo ≤ 900 := by have := HEM.out; omega
      have HNN := Lib.hid hnn
      have HNEW := Lib.hid hnew
      clear hbx hob hnew hnn
      go_cut [21, 22, 23] (fun s21 s22 s23 wx => ∃ g2 r ys2, s21 = .slice (some ⟨g2, 0, none⟩) (l.length - (te - fr) + mo) r ∧ s22 = .bool (!decide (r = cap)) ∧ s23 = .int .i64 0 ∧ Aside0 (Replaced k s m g cap (l.length - (te - fr) + mo) wr wx (ys.take fr ++ os.take mo ++ (ys.drop te).take (l.length - te)) g2 r ys2))
      case first =>
        have HBA : Aside0 ((wr.alloc (.cells #[.int .i64 k0, .int .i64 k1, .int .i64 k2] 48)).heap[w.heap.size]? = some (.cells #[.int .i64 k, .int .i64 s, .int .i64 m] 23)) := ⟨blk_alloc HBX.out _⟩
        have hgne : w.heap.size ≠ g := by have := HE.out.young; omega
        go_region_held3 (fun w' => w'.cell? ⟨w.heap.size, 0, none⟩ = some (.int .i64 k) ∧ w'.cell? ⟨w.heap.size, 1, none⟩ = some (.int .i64 s) ∧ w'.cell? ⟨w.heap.size, 2, none⟩ = some (.int .i64 m)) (first | exact box_cells HBA.out | exact box_cells ((HRP.out.upd.block _ (blk_lt HBA.out) hgne).trans HBA.out)) ((go_at_call 26; refine (replace8 k s m g l.length cap fr te mo oc OA ys (os.take mo) _ HF.out (by exact (HE.out.row.below (below_alloc (Below.refl _ _) _)).drew) HE.out.full hcl hcs f3 f4 (by exact ((HO.out.below (HOB.out.trans (below_alloc (Below.refl _ _) _ |>.mono (by have := HOB.out.size; omega)))).take_ mo f5)) (fun e => ⟨by have := (HON.out e).1; omega, (HON.out e).2⟩) (by omega) (by have := HNN.out; omega) (by have := HNN.out; omega)).mono ?_; rintro e wz ⟨g2, r, ys2, rfl, hrp⟩; have HRP := Aside0.mk hrp; clear hrp))
        all_goals
          go_wp2_with fail
          go_meet
          exact ⟨g2, r, ys2, rfl, rfl, rfl, ⟨replaced_of HRP.out (below_drew (below_alloc (Below.refl _ _) _))⟩⟩
      case rest =>
        obtain ⟨g2, r, ys2, rfl, rfl, rfl, HRP⟩ := hcut
        have hpl := reads_upd HE.out.plain HRP.out.upd (fun ad e _ => (HE.out.pyoung ad e).2)
        have HPL := Aside0.mk hpl
        have hou := reads_upd (HO.out.below HOB.out) HRP.out.upd (fun ad e h0 => by
          obtain ⟨ad', e', hlt'⟩ := reads_lt HO.out h0
          obtain rfl := Option.some.inj (e.symm.trans e')
          have := HE.out.young
          omega)
        have HOU := Aside0.mk hou
        have hsp := sub_to PA l.length pc fr ↑fr rfl f2 HE.out.pfits
        obtain ⟨A3, hA3, eA3⟩ := sub_from PA l.length pc te ↑te rfl f4
        have E3 := Lib.hid eA3
        have HX : Aside0 (ys.take fr ++ os.take mo ++ (ys.drop te).take (l.length - te) = l.take fr ++ os.take mo ++ l.drop te) := ⟨edit_same HE.out.shows f2 f4⟩
        have HOL := Lib.hid HO.out.1
        have HSL := Lib.hid hsl
        have HSP := Lib.hid hsp
        have HA3 := Lib.hid hA3
        clear hpl hou eA3 hx0 hx1 hx2 hc0 hc1 hc2 hsl hsp hA3
        go_wp2_with fail
        go_cut [13] (fun s13 wy => ∃ PB pc2, s13 = .slice PB (l.length - (te - fr) + mo) pc2 ∧ Aside0 (NewRow wc wy PB (l.length - (te - fr) + mo) pc2 (l.take fr ++ os.take mo ++ l.drop te)))
        case first =>
          have hsl := HSL.out
          have hsp := HSP.out
          have hA3 := HA3.out
          have n1 : l.length - (te - fr) + mo = fr + mo + (l.length - te) := by omega
          have N1 := Lib.hid n1
          have N2 : Hid (l.length - (te - fr) + mo ≤ 140737488355328) := Lib.hid (by omega)
          have P1 := Lib.hid (edit_pieces (oc := oc) HPL.out HOU.out f2 f5 f4 HE.out.pfits E3.out (below_drew (below_alloc (o := .cells #[.slice PA fr pc, .slice OA mo oc, .slice A3 (l.length - te) (pc - te)] 24) (Below.refl _ wc))))
          have P2 := Lib.hid (edit_nils (l := l) (os := os) HE.out.pnil HON.out f2 f5 E3.out f4 HE.out.pfits)
          clear n1
          go_region_held3 (fun _ => True) (trivial) ((go_at_call 27; refine (concat3 _ ⟨PA, fr, pc, l.take fr⟩ ⟨OA, mo, oc, os.take mo⟩ ⟨A3, l.length - te, pc - te, l.drop te⟩ (l.length - (te - fr) + mo) _ (l.take fr ++ os.take mo ++ l.drop te) [⟨PA, fr, pc, l.take fr⟩, ⟨OA, mo, oc, os.take mo⟩, ⟨A3, l.length - te, pc - te, l.drop te⟩] (by exact blk_new _ _) P1.out P2.out N2.out rfl N1.out rfl).mono ?_; rintro e wz ⟨PB, pc2, rfl, hnw⟩; have HNW := Aside0.mk hnw; clear hnw))
          all_goals
            go_wp2_with fail
            go_meet
            exact ⟨PB, pc2, rfl, ⟨newRow_of HNW.out (below_drew (below_alloc (Below.refl _ _) _))⟩⟩
        case rest =>
          obtain ⟨PB, pc2, rfl, HNW⟩ := hcut
          have HBX2 := Aside0.mk (((HRP.out.upd.then (Upd.of_below (S := fun _ => False) HNW.out.below) (fun k hk => hk.elim)).block w.heap.size (blk_lt HBX.out) (by have := HE.out.young; omega)).trans HBX.out)
          obtain ⟨hx0, hx1, hx2⟩ := box_cells HBX2.out
          have HGV := Aside0.mk HRP.out.gives
          obtain ⟨nn, hnn⟩ : ∃ nn, nn = l.length - (te - fr) + mo := ⟨_, rfl⟩
          rw [← hnn] at HNW HRP HGV ⊢
          have HNQ := Lib.hid hnn
          clear hnn
          go_wp2_with fail
          refine (grow k s m _ _ _).mono ?_
          rintro e w5 ⟨rfl, hb5⟩
          rw [HGV.out]
          have HB5 := Aside0.mk hb5
          have HY5 := Aside0.mk (((Row.reads_at (HRP.out.row.below HNW.out.below) 0 nn (by have := HRP.out.full; have := HRP.out.fits; omega) (by have := HRP.out.full; have := HRP.out.small; unfold maxLen; omega))).below hb5)
          have HP5 := Aside0.mk (HNW.out.reads.below hb5)
          clear hb5 hx0 hx1 hx2
          have hX2 : (ys2.drop 0).take nn = l.take fr ++ os.take mo ++ l.drop te := by rw [List.drop_zero, HRP.out.shows, HX.out]
          rw [hX2] at HY5
          have hcy := string_of_reads (P := Try.prog) (src := 24) (dst := 9) Try.underlying24 Try.underlying5 Try.underlying9 (c := r) HY5.out
          have hcp := string_of_reads (P := Try.prog) (src := 24) (dst := 9) Try.underlying24 Try.underlying5 Try.underlying9 (c := pc2) HP5.out
          clear hX2
          have hrc : (r = cap) ∨ (decide (r = cap) = false ∧ ((r : Int) != (cap : Int)) = true ∧ (r == cap) = false) := by
            by_cases h : r = cap
            · exact .inl h
            · exact .inr ⟨decide_eq_false h, by simp; omega, by simp [h]⟩
          have HREL : Aside0 (EditsRel (w.alloc (.cells #[.int .i64 k, .int .i64 s, .int .i64 m] 23)) w5 (w.heap.size + 1) g2 r PB pc2 (l.take fr ++ os.take mo ++ l.drop te) ys2) := ⟨edits_next HE.out HRP.out HNW.out HB5.out HX.out (by have := blk_lt HBX.out; omega) HNW.out.nil⟩
          have hxl : (l.take fr ++ os.take mo ++ l.drop te).length = nn := by have := HOL.out; have := HNQ.out; simp; omega
          have hgrow : nn ≤ n + (i + 1) * M := by have := HNQ.out; have := HNEW.out; rw [Nat.add_mul]; omega
          have HXL := Lib.hid hxl
          have HGROW := Lib.hid hgrow
          clear hxl hgrow HY5 HP5
          rcases hrc with rfl | ⟨e1, e2, e3⟩
          all_goals
            go_wp2_with fail
            refine ⟨⟨i + 1, g2, _, PB, pc2, _, ys2, by omega, by simp, by rw [HXL.out], by rw [HXL.out], by rw [HXL.out]; exact HGROW.out, HREL⟩, ?_⟩
            show E - ((i : Int) + 1).toNat < E - (i : Int).toNat
            omega
    · go_wp2_with fail
      go_ret
      exact ⟨rfl, (below_alloc (Below.refl w.heap.size w) _).trans (HE.out.below.mono (by omega))⟩

theorem roomEdits_row (k s m : Int) (a1 : Option Addr) (len1 cap1 : Nat) (zs1 : List Int) (room : Int) (a3 : Option Addr) (len3 cap3 : Nat) (t : Nat → Int × Int × Int) (a4 : Option Addr) (len4 cap4 : Nat) (zs4 : List Int) (w : World) (_ : (Lit.int .i64 k).wf = true) (_ : (Lit.int .i64 s).wf = true) (_ : (Lit.int .i64 m).wf = true)
    (hrow1 : (a1 = none ∧ len1 = 0 ∧ cap1 = 0 ∧ zs1 = []) ∨
    ∃ x, a1 = some x ∧ len1 ≤ cap1 ∧ cap1 ≤ maxLen ∧ zs1.length = cap1 ∧ (∀ i, i < zs1.length → w.cell? (x.add i) = some (.int .u8 (zs1.getD i 0))) ∧ ∀ n ∈ zs1, (Lit.int .u8 n).wf = true) (y1 : len1 ≤ 1048576) (_ : (Lit.int .i64 room).wf = true)
    (hrow3 : (a3 = none ∧ len3 = 0 ∧ cap3 = 0) ∨ ∃ x, a3 = some x ∧ len3 ≤ cap3 ∧ ∀ i, i < len3 → w.cell? (x.add (i * 3)) = some (.int .i64 (t i).1) ∧ w.cell? (x.add (i * 3 + 1)) = some (.int .i64 (t i).2.1) ∧ w.cell? (x.add (i * 3 + 2)) = some (.int .i64 (t i).2.2)) (y3 : len3 ≤ 1048576)
    (hrow4 : (a4 = none ∧ len4 = 0 ∧ cap4 = 0 ∧ zs4 = []) ∨
    ∃ x, a4 = some x ∧ len4 ≤ cap4 ∧ cap4 ≤ maxLen ∧ zs4.length = cap4 ∧ (∀ i, i < zs4.length → w.cell? (x.add i) = some (.int .u8 (zs4.getD i 0))) ∧ ∀ n ∈ zs4, (Lit.int .u8 n).wf = true) (y4 : len4 ≤ 1048576) :
    Calls Try.prog 4 #[.agg #[.int .i64 k, .int .i64 s, .int .i64 m], .slice a1 len1 cap1, .int .i64 room, .slice a3 len3 cap3, .slice a4 len4 cap4] w fun e w' => e = .returned (.bool true) ∧ Below w.heap.size w w' := by
  have hn1 : a1 = none → len1 = 0 ∧ cap1 = 0 := fun e => by
    rcases hrow1 with ⟨_, h1, h2, _⟩ | ⟨x, h, _⟩
    · exact ⟨h1, h2⟩
    · rw [e] at h; cases h
  have hn4 : a4 = none → len4 = 0 ∧ cap4 = 0 := fun e => by
    rcases hrow4 with ⟨_, h1, h2, _⟩ | ⟨x, h, _⟩
    · exact ⟨h1, h2⟩
    · rw [e] at h; cases h
  have hEc : len3 ≤ cap3 := by
    rcases hrow3 with ⟨_, h1, h2⟩ | ⟨x, _, h, _⟩
    · omega
    · exact h
  have ht : Triples w a3 len3 t := fun h0 => by
    rcases hrow3 with ⟨_, h1, _⟩ | ⟨x, rfl, _, hc⟩
    · omega
    · obtain ⟨b, o, sp⟩ := x
      have h00 := (hc 0 h0).1
      have hsp : sp = none := by
        cases sp with
        | none => rfl
        | some v =>
          exfalso
          simp only [Addr.add, World.cell?] at h00
          split at h00 <;> simp at h00
      subst hsp
      refine ⟨b, o, rfl, ?_, fun i hi => ?_⟩
      · have := World.block_lt_of_cell? w _ h00
        simpa [Addr.add] using this
      · obtain ⟨q0, q1, q2⟩ := hc i hi
        rw [add_at] at q0 q1 q2
        exact ⟨q0, q1, q2⟩
  obtain ⟨xs, rfl, hr, _, _, _⟩ := ReadsInt.ofRowC hrow1
  obtain ⟨os, rfl, ho, _, _, hMc⟩ := ReadsInt.ofRowC hrow4
  by_cases hon : editsOn xs.length room m (rgFault k s m) len3 os.length
  · obtain ⟨q1, q2, q3, q4, q5⟩ := hon
    obtain ⟨room, rfl⟩ := Int.eq_ofNat_of_zero_le (show 0 ≤ room by omega)
    exact edits_run k s m a1 a3 a4 _ cap1 len3 cap3 _ cap4 room xs os t w y1 y3 y4 hr hn1 ho hn4 hMc hEc ht (by omega) (by omega) q3 q4 q5
  · exact edits_skip k s m a1 a3 a4 _ cap1 len3 cap3 _ cap4 room w y1 y3 y4 hon
end Go.Proofs.Ythhnmanhehbbhaa.Oct
