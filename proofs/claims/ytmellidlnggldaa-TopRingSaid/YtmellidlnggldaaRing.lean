/- Rings: what a ring is in memory, and its small functions. -/
import Derived.Test.YtmellidlnggldaaBook4
import Derived.Test.YtmellidlnggldaaRepl
import Derived.Test.YtmellidlnggldaaRingPure
namespace Go.Proofs.Ytmellidlnggldaa.Ring
set_option linter.unusedVariables false
open Go.RowKit Go.Proofs.YtmellidlnggldaaW.PrintWords Go.Proofs.YtmellidlnggldaaW.PrintLast Go.Proofs.YtmellidlnggldaaW.PrintMore Go.Proofs.Ytmellidlnggldaa.Book Go.Proofs.Ytmellidlnggldaa.Oct
set_option linter.unusedSimpArgs false

/-- A ring's cells. -/
def ringCells (p : Nat) (o k s m : Int) (cl : Bool) (mem : Value) (start len : Int) : Obj := .cells #[.pointer (some ⟨p, 0, none⟩), .int .i64 o, .int .i64 k, .int .i64 s, .int .i64 m, .bool cl, mem, .int .i64 start, .int .i64 len] 64

def cellS (c start n : Nat) : Nat := if c = 0 then 0 else (start + n) % c

set_option maxHeartbeats 1000000 in
set_option maxRecDepth 100000 in
theorem cell (r p : Nat) (o k s m : Int) (cl : Bool) (MA : Option Addr) (c start n : Nat) (len : Int) (w : World) (h : w.heap[r]? = some (ringCells p o k s m cl (.slice MA c c) start len)) (hc : c ≤ 100000) (hs : start ≤ 100000) (hn : n ≤ 100000) :
    Calls Try.prog 27 #[.pointer (some ⟨r, 0, none⟩), .int .i64 n] w fun e w' => e = .returned (.int .i64 (cellS c start n)) ∧ ∃ q, w' = w.drewN q := by
  have hm6 : w.cell? ⟨r, 6, none⟩ = some (.slice MA c c) := by rw [blk_cell h]; rfl
  have hm7 : w.cell? ⟨r, 7, none⟩ = some (.int .i64 start) := by rw [blk_cell h]; rfl
  clear h
  by_cases h0 : c = 0
  · subst h0
    go_enter Try.func27, Try.ntmps27
    go_wp2
    go_ret
    exact ⟨rfl, 0, rfl⟩
  · have hd : ((c : Int) == 0) = false := by simp; omega
    have hd2 : (c == 0) = false := by simp [h0]
    have hcp : (0 : Int) < (c : Int) := by omega
    have hw : IntKind.i64.wrap ((start : Int) + (n : Int)) = (start : Int) + (n : Int) := IntWalk.i64_in _ (by omega)
    have hrem : ((start : Int) + (n : Int)).tmod (c : Int) = ((cellS c start n : Nat) : Int) := by
      unfold cellS
      rw [if_neg h0, Int.tmod_eq_emod_of_nonneg (by omega)]
      push_cast; rfl
    have hrem2 : ((start : Int) + (n : Int)) % (c : Int) = ((cellS c start n : Nat) : Int) := by
      unfold cellS
      rw [if_neg h0]
      push_cast; rfl
    go_enter Try.func27, Try.ntmps27
    go_wp2
    go_quiet ((fail))
    go_wp2
    go_ret
    exact ⟨rfl, _, rfl⟩

/-- x[lo:hi:hi]. -/
theorem sub_three (A : Option Addr) (n c lo hi : Nat) (h1 : lo ≤ hi) (h2 : hi ≤ c) : ∃ A' : Option Addr, (∀ W : World, (Instr.slice 37 (.slice A n c) (some (.int .i64 lo)) (some (.int .i64 hi)) (some (.int .i64 hi))).run Try.prog W = .ok (.slice A' (hi - lo) (hi - lo)) W) ∧ (lo < hi → A' = A.map (·.add lo)) := by
  obtain ⟨i0, hi0, hz0, hz1, hz2⟩ := info_parts infoU8
  have hel : Try.prog.elem 37 = 5 := by simp [Program.elem, Try.underlying37]
  have hu : Try.prog.underlying 37 = some (.slice (Try.prog.elem 37)) := by rw [hel]; exact Try.underlying37
  refine ⟨if hi = lo then A else A.map (·.add lo), fun W => ?_, fun h => if_neg (by omega)⟩
  rw [run_slice_lhm W 37 A n c hu .i64 .i64 .i64 lo hi hi (by omega) (by omega) (by omega) (by omega), hel]
  simp [sizeOf, typeInfo, hi0, hz1, sliced, Result.andThen]
theorem sub_two (A : Option Addr) (n c hi : Nat) (h2 : hi ≤ c) : ∀ W : World, (Instr.slice 37 (.slice A n c) none (some (.int .i64 hi)) (some (.int .i64 hi))).run Try.prog W = .ok (.slice A hi hi) W := by
  obtain ⟨i0, hi0, hz0, hz1, hz2⟩ := info_parts infoU8
  have hel : Try.prog.elem 37 = 5 := by simp [Program.elem, Try.underlying37]
  have hu : Try.prog.underlying 37 = some (.slice (Try.prog.elem 37)) := by rw [hel]; exact Try.underlying37
  intro W
  have ha : (A.map fun x => x.add 0) = A := by cases A <;> simp [Addr.add]
  rw [run_slice_hm W 37 A n c hu .i64 .i64 hi hi (by omega) (by omega) (by omega), hel]
  simp [sizeOf, typeInfo, hi0, hz1, sliced, Result.andThen, ha]

set_option maxHeartbeats 1000000 in
set_option maxRecDepth 100000 in
theorem cells (r p : Nat) (o k s m : Int) (cl : Bool) (MA : Option Addr) (c at_ n : Nat) (start len : Int) (w : World) (h : w.heap[r]? = some (ringCells p o k s m cl (.slice MA c c) start len)) (hc : c ≤ 100000) (ha : at_ ≤ c) (hn : n ≤ c) :
    Calls Try.prog 36 #[.pointer (some ⟨r, 0, none⟩), .int .i64 at_, .int .i64 n] w fun e w' => ∃ A1, e = .returned (.tuple #[.slice A1 (min (at_ + n) c - at_) (min (at_ + n) c - at_), .slice MA (n - (min (at_ + n) c - at_)) (n - (min (at_ + n) c - at_))]) ∧ (at_ < min (at_ + n) c → A1 = MA.map (·.add at_)) ∧ ∃ q, w' = w.drewN q := by
  have hm6 : w.cell? ⟨r, 6, none⟩ = some (.slice MA c c) := by rw [blk_cell h]; rfl
  clear h
  obtain ⟨e, he⟩ : ∃ e, e = min (at_ + n) c := ⟨_, rfl⟩
  obtain ⟨d, hd⟩ : ∃ d, d = n - (e - at_) := ⟨_, rfl⟩
  rw [← he, ← hd]
  have he1 : at_ ≤ e := by omega
  have he2 : e ≤ c := by omega
  have hmin : (if (at_ : Int) + (n : Int) < (c : Int) then (at_ : Int) + (n : Int) else (c : Int)) = (e : Int) := by split <;> omega
  have hmin2 : (if (c : Int) < (at_ : Int) + (n : Int) then (c : Int) else (at_ : Int) + (n : Int)) = (e : Int) := by split <;> omega
  have hrest : (n : Int) - ((e : Int) - (at_ : Int)) = (d : Int) := by omega
  obtain ⟨A1, hA1, eA1⟩ := sub_three MA c c at_ e he1 he2
  have hA2 := sub_two MA c c d (by omega)
  have E1 := Lib.hid eA1
  clear he hd eA1
  go_enter Try.func36, Try.ntmps36
  go_wp2
  go_quiet ((fail))
  go_wp2
  go_ret2
  exact ⟨A1, rfl, E1.out, _, rfl⟩

theorem newRow_later {w W w' : World} {A : Option Addr} {n cap : Nat} {xs : List Int} (h : NewRow W w' A n cap xs) (hb : Below w.heap.size w W) : NewRow w w' A n cap xs :=
  ⟨h.reads, h.fits, below_then hb hb.size h.below, fun ad e => by
    obtain ⟨g, e1, h1, h2⟩ := h.young ad e
    exact ⟨g, e1, Nat.le_trans hb.size h1, h2⟩, h.nil⟩
theorem concat2 (g : Nat) (p q : Piece) (N : Nat) (w : World) (X : List Int) (hb : w.heap[g]? = some (.cells #[.slice p.A p.n p.c, .slice q.A q.n q.c] 37)) (hp : ReadsInt w .u8 p.A p.n p.xs) (hq : ReadsInt w .u8 q.A q.n q.xs) (np : p.A = none → p.n = 0 ∧ p.c = 0) (nq : q.A = none → q.n = 0 ∧ q.c = 0) (hs : N ≤ 140737488355328) (hN : N = p.n + q.n) (hX : X = p.xs ++ q.xs) :
    Calls Try.prog 46 #[.slice (some ⟨g, 0, none⟩) 2 2] w fun e w' => ∃ B cap, e = .returned (.slice B N cap) ∧ NewRow w w' B N cap X := by
  have h := concat8 g [p, q] w (by simpa [Piece.val] using hb) (fun x hx => by
    simp only [List.mem_cons, List.not_mem_nil, or_false] at hx
    rcases hx with rfl | rfl <;> assumption) (fun x hx => by
    simp only [List.mem_cons, List.not_mem_nil, or_false] at hx
    rcases hx with rfl | rfl <;> assumption) (by simp) (by simp [lenOf]; omega)
  have e1 : lenOf [p, q] = N := by simp [lenOf]; omega
  have e2 : allOf [p, q] = X := by rw [hX]; simp [allOf]
  rw [e1, e2] at h
  exact h

theorem cellS_le {c start n : Nat} : cellS c start n ≤ c := by
  unfold cellS; split
  · omega
  · exact Nat.le_of_lt (Nat.mod_lt _ (by omega))

theorem dropR {w : World} {A A3 : Option Addr} {n c te : Nat} {xs : List Int} (h : ReadsInt w .u8 A n xs) (h4 : te ≤ n) (hc : n ≤ c) (e : te < c → A3 = A.map (·.add te)) : ReadsInt w .u8 A3 (n - te) (xs.drop te) := by
  by_cases hlt : te < c
  · have := h.drop_ te h4 hc
    rw [if_neg (by omega)] at this
    rw [e hlt]; exact this
  · have : n - te = 0 := by omega
    have hx : xs.drop te = [] := List.drop_eq_nil_of_le (by have := h.1; omega)
    rw [this, hx]
    exact reads_nothing _ _ _

set_option maxHeartbeats 1000000 in
set_option maxRecDepth 100000 in
theorem octets (r p : Nat) (o k s m : Int) (cl : Bool) (MA : Option Addr) (c start at_ n : Nat) (len : Int) (ys : List Int) (w : World) (h : w.heap[r]? = some (ringCells p o k s m cl (.slice MA c c) start len)) (hrow : ReadsInt w .u8 MA c ys) (hmn : MA = none → c = 0) (hc : c ≤ 100000) (hs : start ≤ 100000) (ha : at_ ≤ 100000) (hn : n ≤ c) :
    Calls Try.prog 33 #[.pointer (some ⟨r, 0, none⟩), .int .i64 at_, .int .i64 n] w fun e w' => ∃ B cap, e = .returned (.slice B n cap) ∧ NewRow w w' B n cap (ringTake ys (cellS c start at_) n) := by
  have H := Aside0.mk h
  have HR := Aside0.mk hrow
  have HL := Lib.hid hrow.1
  have HM := Lib.hid hmn
  clear h hrow hmn
  go_enter Try.func33, Try.ntmps33
  go_wp2_with fail
  refine (cell r p o k s m cl _ c start at_ len w H.out hc hs ha).mono ?_
  rintro e w1 ⟨rfl, m1, rfl⟩
  obtain ⟨a, hav⟩ : ∃ a, a = cellS c start at_ := ⟨_, rfl⟩
  have hac : a ≤ c := by rw [hav]; exact cellS_le
  rw [← hav]
  have HAV := Lib.hid hav
  clear hav
  go_wp2_with fail
  refine (cells r p o k s m cl _ c a n start len (w.drewN m1) H.out hc hac hn).mono ?_
  rintro e w2 ⟨A1, rfl, hA1, m2, rfl⟩
  have E1 := Lib.hid hA1
  clear hA1
  have hq1 : ReadsInt w .u8 A1 (min (a + n) c - a) ((ys.drop a).take (min (a + n) c - a)) := by
    by_cases h0 : a < min (a + n) c
    · exact (dropR HR.out hac (Nat.le_refl c) (fun _ => E1.out h0)).take_ _ (by omega)
    · have e0 : min (a + n) c - a = 0 := by omega
      rw [e0]; exact reads_nothing _ _ _
  have hq2 : ReadsInt w .u8 MA (n - (min (a + n) c - a)) (ys.take (n - (min (a + n) c - a))) := HR.out.take_ _ (by omega)
  have hn1 : A1 = none → min (a + n) c - a = 0 ∧ min (a + n) c - a = 0 := fun e => by
    by_cases h0 : a < min (a + n) c
    · have hz := E1.out h0
      rw [e] at hz
      cases hma : MA with
      | none => have := HM.out hma; omega
      | some x => rw [hma] at hz; simp at hz
    · omega
  have hn2 : MA = none → n - (min (a + n) c - a) = 0 ∧ n - (min (a + n) c - a) = 0 := fun e => by have := HM.out e; omega
  have Q1 := Aside0.mk hq1
  have Q2 := Aside0.mk hq2
  have QN := Lib.hid hn1
  have QN2 := Lib.hid hn2
  have HRT : Hid (ringTake ys a n = (ys.drop a).take (min (a + n) c - a) ++ ys.take (n - (min (a + n) c - a))) := Lib.hid (by unfold ringTake; rw [HL.out])
  clear hq1 hq2 hn1 hn2
  go_wp2_with fail
  refine (concat2 _ ⟨A1, min (a + n) c - a, min (a + n) c - a, (ys.drop a).take (min (a + n) c - a)⟩ ⟨MA, n - (min (a + n) c - a), n - (min (a + n) c - a), ys.take (n - (min (a + n) c - a))⟩ n _ (ringTake ys a n) (by exact blk_new _ _) (by exact Q1.out.below (below_alloc (pw_below_drewN (Below.refl _ _) _) _)) (by exact Q2.out.below (below_alloc (pw_below_drewN (Below.refl _ _) _) _)) QN.out QN2.out (by omega) (by simp only; omega) HRT.out).mono ?_
  rintro e w3 ⟨B, cap, rfl, hnew⟩
  have HN := Aside0.mk hnew
  clear hnew
  go_wp2_with fail
  go_ret
  exact ⟨B, cap, rfl, by rw [← HAV.out]; exact newRow_later HN.out (below_alloc (pw_below_drewN (Below.refl _ _) _) _)⟩

theorem dropB {A A3 : Option Addr} {n c te mb : Nat} (hb : ∀ ad, A = some ad → ad.block ≠ mb) (e : te < c → A3 = A.map (·.add te)) (h4 : te ≤ n) (hc : n ≤ c) : ∀ ad, A3 = some ad → 0 < n - te → ¬ ad.block = mb := by
  intro ad ha h0
  rw [e (by omega)] at ha
  cases A with
  | none => simp at ha
  | some x =>
    have hx := hb x rfl
    have : x.add te = ad := by simpa using ha
    rw [← this]
    have : (x.add te).block = x.block := by cases te <;> simp [Addr.add]
    rw [this]; exact hx

set_option maxHeartbeats 1000000 in
set_option maxRecDepth 100000 in
theorem put (r p mb : Nat) (o k s m : Int) (cl : Bool) (c a n oc : Nat) (start len : Int) (OA : Option Addr) (ys os : List Int) (w : World) (h : w.heap[r]? = some (ringCells p o k s m cl (.slice (some ⟨mb, 0, none⟩) c c) start len)) (hrow : Row w mb ys) (hl : ys.length = c) (hc : c ≤ 100000) (ha : a ≤ c) (hn : n ≤ c) (ho : ReadsInt w .u8 OA n os) (hoc : n ≤ oc) (hob : ∀ ad, OA = some ad → ad.block ≠ mb) :
    Calls Try.prog 26 #[.pointer (some ⟨r, 0, none⟩), .int .i64 a, .slice OA n oc] w fun e w' => e = .returned (.tuple #[]) ∧ Row w' mb (ringPut ys os a) ∧ Upd (fun k => k = mb) w w' := by
  have H := Aside0.mk h
  have HR := Aside0.mk hrow
  have HL := Lib.hid hl
  have HO := Aside0.mk ho
  obtain ⟨d, hd⟩ : ∃ d, d = min (a + n) c - a := ⟨_, rfl⟩
  have hdn : d ≤ n := by omega
  obtain ⟨A2, hA2, eA2⟩ := sub_from OA n oc d ↑d rfl hdn
  have E2 := Lib.hid eA2
  clear h hrow hl ho eA2
  go_enter Try.func26, Try.ntmps26
  go_wp2_with fail
  refine (cells r p o k s m cl _ c a n start len w H.out hc ha hn).mono ?_
  rintro e w1 ⟨A1, rfl, hA1, m1, rfl⟩
  rw [← hd]
  have hd0 : a < min (a + n) c ↔ 0 < d := by omega
  have E1 : Hid (0 < d → A1 = some ⟨mb, a, none⟩) := Lib.hid (fun h => by rw [hA1 (hd0.2 h)]; simp [add_zero'])
  clear hA1 hd0
  have hon := Lib.hid HO.out.1
  have htl : Hid ((os.take d).length = d) := Lib.hid (by have := hon.out; simp; omega)
  have hdl : Hid ((os.drop d).length = n - d) := Lib.hid (by have := hon.out; simp; omega)
  have had : Hid (a + d ≤ c) := Lib.hid (by omega)
  have HD := Lib.hid hd
  have HOB := Lib.hid hob
  clear hd hob
  go_wp2_with (first | ((with_reducible refine gate_builtin (b := .copy) (xs := #[.tmp 17, .tmp 18]) rfl ?_); refine wpList_copy8 rfl (.tmp 17) (.tmp 18) rfl A1 OA d d n oc rfl rfl mb a ys (os.take d) (HR.out.drewN _) (by rw [htl.out]; exact (Nat.min_eq_right hdn).symm) (fun h0 => ⟨E1.out (by rw [htl.out] at h0; exact h0), by rw [htl.out]; exact (HO.out.drewN _).take_ d hdn⟩) (by rw [htl.out, HL.out]; exact had.out) ?_; intro w2 HG2 HU2 hz2; rw [htl.out] at HG2 ⊢) | ((with_reducible refine gate_builtin (b := .copy) (xs := #[.tmp 21, .tmp 22]) rfl ?_); refine wpList_copy8 rfl (.tmp 21) (.tmp 22) rfl (some ⟨mb, 0, none⟩) A2 (n - d) (n - d) (n - d) (oc - d) rfl rfl mb 0 _ (os.drop d) HG2.out (by rw [hdl.out]; exact (Nat.min_self _).symm) (fun h0 => ⟨rfl, by rw [hdl.out]; exact reads_upd (dropR HO.out hdn hoc E2.out) ((Upd.of_below (pw_below_drewN (Below.refl _ _) _)).then HU2.out (fun k hk => .inl hk)) (dropB HOB.out E2.out hdn hoc)⟩) (by rw [hdl.out]; simp only [List.length_append, htl.out, List.length_take, List.length_drop, HL.out]; omega) ?_; intro w3 HG3 HU3 hz3; rw [hdl.out] at HG3 ⊢))
  go_end0
  refine ⟨rfl, ?_, ((Upd.of_below (pw_below_drewN (Below.refl _ _) _)).then HU2.out (fun k hk => .inl hk)).then HU3.out (fun k hk => .inl hk)⟩
  have h := HG3.out
  unfold ringPut
  rw [HL.out, hon.out, ← HD.out]
  simpa using h

set_option maxRecDepth 100000 in
theorem roomOf (r p : Nat) (o k s m : Int) (cl : Bool) (MA : Option Addr) (c : Nat) (start len : Int) (w : World) (h : w.heap[r]? = some (ringCells p o k s m cl (.slice MA c c) start len)) :
    Calls Try.prog 17 #[.pointer (some ⟨r, 0, none⟩)] w fun e w' => e = .returned (.int .i64 c) ∧ w = w' := by
  have hm6 : w.cell? ⟨r, 6, none⟩ = some (.slice MA c c) := by rw [blk_cell h]; rfl
  clear h
  go_enter Try.func17, Try.ntmps17
  go_wp2
  go_ret
  exact ⟨rfl, rfl⟩
set_option maxRecDepth 100000 in
theorem lenOfRing (r p : Nat) (o k s m : Int) (cl : Bool) (mem : Value) (start len : Int) (w : World) (h : w.heap[r]? = some (ringCells p o k s m cl mem start len)) :
    Calls Try.prog 15 #[.pointer (some ⟨r, 0, none⟩)] w fun e w' => e = .returned (.int .i64 len) ∧ w = w' := by
  have hm8 : w.cell? ⟨r, 8, none⟩ = some (.int .i64 len) := by rw [blk_cell h]; rfl
  clear h
  go_enter Try.func15, Try.ntmps15
  go_wp2
  go_ret
  exact ⟨rfl, rfl⟩
end Go.Proofs.Ytmellidlnggldaa.Ring
