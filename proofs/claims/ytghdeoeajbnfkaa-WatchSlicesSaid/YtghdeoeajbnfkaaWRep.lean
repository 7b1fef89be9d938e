/- slices.Repeat of -1. -/
import Derived.Test.YtghdeoeajbnfkaaWFenced
import Derived.Lib.AppendStr
namespace Go.Proofs.Ytghdeoeajbnfkaa.WSl
open Go.RowKit Go.Proofs.YtghdeoeajbnfkaaW.PrintWords Go.Proofs.YtghdeoeajbnfkaaW.PrintLast Go.Proofs.YtghdeoeajbnfkaaW.PrintMore
set_option linter.unusedSimpArgs false
set_option linter.unusedVariables false

/-! ### bits_Mul64: function 35 -/
def bits_Mul64.f (a0 : Int) (a1 : Int) : Option (Int × Int) := some (IntKind.u64.wrap ((IntKind.u64.wrap ((IntKind.u64.wrap ((a0 / 4294967296) * (a1 / 4294967296))) + ((IntKind.u64.wrap ((IntKind.u64.wrap ((a0 / 4294967296) * (Go.bits .and .u64 a1 4294967295))) + ((IntKind.u64.wrap ((Go.bits .and .u64 a0 4294967295) * (Go.bits .and .u64 a1 4294967295))) / 4294967296))) / 4294967296))) + ((IntKind.u64.wrap ((Go.bits .and .u64 (IntKind.u64.wrap ((IntKind.u64.wrap ((a0 / 4294967296) * (Go.bits .and .u64 a1 4294967295))) + ((IntKind.u64.wrap ((Go.bits .and .u64 a0 4294967295) * (Go.bits .and .u64 a1 4294967295))) / 4294967296))) 4294967295) + (IntKind.u64.wrap ((Go.bits .and .u64 a0 4294967295) * (a1 / 4294967296))))) / 4294967296)), IntKind.u64.wrap (a0 * a1))
set_option maxHeartbeats 8000000 in
set_option maxRecDepth 100000 in
theorem bits_Mul64.calls (a0 : Int) (a1 : Int) (r1 : Int) (r2 : Int) (w : World) (h : bits_Mul64.f a0 a1 = some (r1, r2)) :
    Calls Try.prog 35 #[.int .u64 a0, .int .u64 a1] w fun e w' => e = .returned (.tuple #[.int .u64 r1, .int .u64 r2]) ∧ Drawn0 w w' := by
  have H : (some (IntKind.u64.wrap ((IntKind.u64.wrap ((IntKind.u64.wrap ((a0 / 4294967296) * (a1 / 4294967296))) + ((IntKind.u64.wrap ((IntKind.u64.wrap ((a0 / 4294967296) * (Go.bits .and .u64 a1 4294967295))) + ((IntKind.u64.wrap ((Go.bits .and .u64 a0 4294967295) * (Go.bits .and .u64 a1 4294967295))) / 4294967296))) / 4294967296))) + ((IntKind.u64.wrap ((Go.bits .and .u64 (IntKind.u64.wrap ((IntKind.u64.wrap ((a0 / 4294967296) * (Go.bits .and .u64 a1 4294967295))) + ((IntKind.u64.wrap ((Go.bits .and .u64 a0 4294967295) * (Go.bits .and .u64 a1 4294967295))) / 4294967296))) 4294967295) + (IntKind.u64.wrap ((Go.bits .and .u64 a0 4294967295) * (a1 / 4294967296))))) / 4294967296)), IntKind.u64.wrap (a0 * a1))) = some (r1, r2) := h
  clear h
  simp only [Option.some.injEq, Prod.mk.injEq] at H
  obtain ⟨rfl, rfl⟩ := H
  go_enter Try.func35, Try.ntmps35
  go_wp2
  go_ret2
  exact ⟨by first | rfl | (simp; done) | (simp [*]; done), by repeat (first | exact Drawn0.refl _ | apply Drawn0.step)⟩

/-! ### bits_Mul: function 31 -/
def bits_Mul.f (a0 : Int) (a1 : Int) : Option (Int × Int) := (bits_Mul64.f a0 a1).bind fun bt128 => (some (bt128.1, bt128.2))
set_option maxHeartbeats 8000000 in
set_option maxRecDepth 100000 in
theorem bits_Mul.calls (a0 : Int) (a1 : Int) (r1 : Int) (r2 : Int) (w : World) (h : bits_Mul.f a0 a1 = some (r1, r2)) :
    Calls Try.prog 31 #[.int .u64 a0, .int .u64 a1] w fun e w' => e = .returned (.tuple #[.int .u64 r1, .int .u64 r2]) ∧ Drawn0 w w' := by
  have H : ((bits_Mul64.f a0 a1).bind fun bt128 => (some (bt128.1, bt128.2))) = some (r1, r2) := h
  clear h
  replace H := Option.bind_eq_some_iff.mp H
  obtain ⟨⟨t128, t129⟩, A30, H⟩ := H
  replace H : (some (t128, t129)) = some (r1, r2) := H
  have A3 := Aside0.mk A30
  clear A30
  simp only [Option.some.injEq, Prod.mk.injEq] at H
  obtain ⟨rfl, rfl⟩ := H
  go_enter Try.func31, Try.ntmps31
  go_wp2_with (first | ((with_reducible refine gate_callee (f := 35) rfl ?_); refine goesL_ (some 25) rfl rfl Try.func35 (by kernel_rfl) rfl #[.int .u64 a0, .int .u64 a1] rfl (by (try simp only [List.map_toArray, List.map_cons, List.map_nil]); first | done | rfl | (simp only [List.length_drop, List.length_take]; rfl)) ?_; (with_reducible refine (bits_Mul64.calls a0 a1 t128 t129 _ A3.out).mono ?_); rintro e w' ⟨rfl, ⟨nd, rfl⟩⟩; refine ⟨_, rfl, ?_⟩))
  go_ret2
  exact ⟨by first | rfl | (simp; done) | (simp [*]; done), by repeat (first | exact Drawn0.refl _ | apply Drawn0.step)⟩


theorem mul64_one (n : Nat) (hn : n ≤ 1000000) : bits_Mul64.f 1 n = some (0, (n : Int)) := by
  have h1 : Go.bits .and .u64 (n : Int) 4294967295 = n := by
    have : n &&& 4294967295 = n := by
      have := Nat.and_two_pow_sub_one_eq_mod n 32
      simp at this
      omega
    have e : n % 18446744073709551616 = n := Nat.mod_eq_of_lt (by omega)
    have e2 : (n : Int) % 18446744073709551616 = n := Int.emod_eq_of_lt (by omega) (by omega)
    simp [Go.bits, IntKind.wrap, this, IntKind.bits, IntKind.signed, e, e2]
    have h : (BitVec.ofNat 64 n &&& 4294967295#64).toNat = n := by simp [BitVec.toNat_and, this, e]
    exact (congrArg (fun x : Nat => (x : Int) % 18446744073709551616) h).trans e2
  have h2 : Go.bits .and .u64 (1 : Int) 4294967295 = 1 := by decide
  have h3 : Go.bits .and .u64 (0 : Int) 4294967295 = 0 := by decide
  have hw : IntKind.u64.wrap (n : Int) = n := by
    have e2 : (n : Int) % 18446744073709551616 = n := Int.emod_eq_of_lt (by omega) (by omega)
    simp [IntKind.wrap, IntKind.bits, IntKind.signed, e2]
  have hw0 : IntKind.u64.wrap 0 = 0 := by decide
  have hd : (n : Int) / 4294967296 = 0 := Int.ediv_eq_zero_of_lt (by omega) (by omega)
  have hd1 : (1 : Int) / 4294967296 = 0 := by decide
  unfold bits_Mul64.f
  rw [h1, h2]
  simp only [hd, hd1, Int.zero_mul, Int.mul_zero, Int.one_mul, hw, hw0, Int.zero_add, Int.add_zero, h3, Int.zero_ediv]

theorem mul_one' (n : Nat) (hn : n ≤ 1000000) : bits_Mul.f 1 n = some (0, (n : Int)) := by
  unfold bits_Mul.f
  rw [mul64_one n hn]
  rfl

end Go.Proofs.Ytghdeoeajbnfkaa.WSl

namespace Go.Proofs.Ytghdeoeajbnfkaa.WSl
open Go.RowKit Go.Proofs.YtghdeoeajbnfkaaW.PrintWords Go.Proofs.YtghdeoeajbnfkaaW.PrintLast Go.Proofs.YtghdeoeajbnfkaaW.PrintMore Go.Proofs.Ytghdeoeajbnfkaa.WMem
set_option linter.unusedSimpArgs false
set_option linter.unusedVariables false

theorem infoI1 : (Try.prog.info? 3).map (·.size) = some 1 := by kernel_rfl

/-- A row of n numbers at block g of which the first m are -1. -/
structure RMid (wB wr : World) (g n m : Nat) : Prop where
  only : Only (fun k _ => k = g) wB wr
  cell : ∀ j, j < n → wr.cell? ⟨g, j, none⟩ = some (.int .i64 (if j < m then -1 else 0)) ∧ wr.frozen? ⟨g, j, none⟩ = false

/-- k more. -/
theorem RMid.step {wB wr : World} {g n m : Nat} (h : RMid wB wr g n m) (k : Nat) (hk : m + k ≤ n) : RMid wB (wr.setCells g m (List.replicate k (.int .i64 (-1)))) g n (m + k) := by
  refine ⟨Only.setCells _ _ _ _ h.only (fun _ _ => .inl rfl), fun j hj => ⟨?_, ?_⟩⟩
  · by_cases hin : m ≤ j ∧ j < m + k
    · have := World.cell?_setCells_in g (List.replicate k (Value.int .i64 (-1))) m wr (fun i hi => by
        have hi : i < k := by simpa using hi
        rw [(h.cell (m + i) (by omega)).1]; rfl) (j - m) (by simp; omega)
      rw [show m + (j - m) = j by omega] at this
      rw [this, List.getElem_replicate, if_pos (by omega)]
    · rw [World.cell?_setCells_out _ _ _ _ _ (fun _ _ => by simp only [List.length_replicate]; omega), (h.cell j hj).1]
      congr 3
      simp only [eq_iff_iff]
      omega
  · rw [World.frozen?_setCells]
    exact (h.cell j hj).2

/-- A copy of numbers that are all -1. -/
theorem run_copy_ones (wr : World) (g m dn dc : Nat) (a : Addr) (sn sc k : Nat) (hk : k = min sn dn) (hs : ∀ j, j < k → wr.cell? (a.add j) = some (.int .i64 (-1))) (hd : ∀ j, j < k → (wr.cell? ⟨g, m + j, none⟩).isSome = true ∧ wr.frozen? ⟨g, m + j, none⟩ = false) (ty : TypeId) :
    (Builtin.copy_ #[35, 35] ty #[.slice (some ⟨g, m, none⟩) dn dc, .slice (some a) sn sc]).run Try.prog wr = .ok (goInt k) (wr.setCells g m (List.replicate k (.int .i64 (-1)))) := by
  have := Go.run_copy_cells (P := Try.prog) wr 35 35 ty 3 g m dn dc a sn sc (List.replicate k (.int .i64 (-1))) Try.underlying35 infoI1 (by simp [hk]) (fun j v hj => by
      have hlt : j < k := by
        have := (List.getElem?_eq_some_iff.1 hj).1
        simpa using this
      rw [hs j hlt, ← hj, List.getElem?_replicate, if_pos hlt])
    (fun j hj => (hd j (by simpa using hj)).1) (fun j hj => (hd j (by simpa using hj)).2) (by intro v hv; rw [List.eq_of_mem_replicate hv]; rfl)
  rw [this]
  simp

/-- In the end: a row of one's own. -/
theorem RMid.own {wB wr : World} {g n : Nat} {cs : Array Value} (h : RMid wB wr g n n) (hg : wB.heap[g]? = some (.cells cs 3 (0, 0))) (hcs : cs.size = n) (hn : n ≤ maxLen) (base : Nat) (hb : base ≤ g) :
    Kd.R (Kd.int .i64) 3 wr base (fun j => base ≤ j) (.slice (some ⟨g, 0, none⟩) n n) (List.replicate n (-1)) := by
  have hblk : ∃ cs', wr.heap[g]? = some (.cells cs' 3 (0, 0)) ∧ cs'.size = n := by
    rcases h.only.block g (blk_lt hg) with e | ⟨c1, c2, t, f, e1, e2, e3, _⟩
    · exact ⟨cs, e.trans hg, hcs⟩
    · rw [hg] at e1
      cases e1
      exact ⟨c2, e2, by omega⟩
  obtain ⟨cs', hb2, hs2⟩ := hblk
  have hall : cs'.toList = (List.replicate n (-1)).map (Value.int .i64) := by
    apply List.ext_getElem?
    intro j
    by_cases hj : j < n
    · have := (h.cell j hj).1
      rw [blk_cell hb2, if_pos hj] at this
      rw [Array.getElem?_toList, this]
      simp [hj]
    · rw [List.getElem?_eq_none (by simp; omega), List.getElem?_eq_none (by simp; omega)]
  have ho : wr.ownsRow base 3 1 (.slice (some ⟨g, 0, none⟩) n n) n ((List.replicate n (-1)).map (Value.int .i64)) := by
    refine ⟨by simp, .inr ⟨g, n, cs', rfl, hb, hb2, Nat.le_refl _, hn, by omega, ?_⟩⟩
    rw [← hall]
    simp only [Nat.mul_one]
    exact List.take_of_length_le (by simp [hs2])
  refine Kd.R_of_own ?_ (fun k hk => ?_)
  · rw [List.length_replicate]
    exact ho
  · simp [Value.ownBlock] at hk
    omega

end Go.Proofs.Ytghdeoeajbnfkaa.WSl

namespace Go.Proofs.Ytghdeoeajbnfkaa.WSl
open Go.RowKit Go.Proofs.YtghdeoeajbnfkaaW.PrintWords Go.Proofs.YtghdeoeajbnfkaaW.PrintLast Go.Proofs.YtghdeoeajbnfkaaW.PrintMore Go.Proofs.Ytghdeoeajbnfkaa.WMem
set_option linter.unusedSimpArgs false
set_option linter.unusedVariables false

theorem makeInt (n : Nat) (hr : n ≤ 1000000) : ∃ cs : Array Value, cs.size = n ∧ (∀ j, j < n → cs[j]? = some (.int .i64 0)) ∧ ∀ u : World, (Instr.makeSlice 35 (.int .i64 n) (.int .i64 n)).run Try.prog u = .ok (.slice (some ⟨u.heap.size, 0, none⟩) n n) (u.alloc (.cells cs 3)) := by
  obtain ⟨i0, hi, hz0, hz1, hz2⟩ := info_parts infoInt
  refine ⟨madeCells (Value.int .i64 0).cells n, by simp [madeCells, Value.cells], fun j hj => ?_, fun u => ?_⟩
  · simp [madeCells, Value.cells, hj, Nat.mod_one]
  · have h := run_make (P := Try.prog) u 35 3 i0 (.int .i64 0) Try.underlying35 hi hz0 .i64 .i64 (n : Int) (n : Int) (by omega) (by omega) (by rw [hz2]; omega) (by omega)
    rw [h, Int.toNat_natCast, hz1, Nat.mul_one]

theorem rep_start (u : World) (p n k : Nat) (cs : Array Value) (hk : k = min 1 n) (hcs : cs.size = n) (hcz : ∀ j, j < n → cs[j]? = some (.int .i64 0)) (hx : u.cell? ⟨p, 0, none⟩ = some (.int .i64 (-1))) :
    ∃ w3, (∀ ty, (Builtin.copy_ #[35, 35] ty #[.slice (some ⟨u.heap.size, 0, none⟩) n n, .slice (some ⟨p, 0, none⟩) 1 1]).run Try.prog (u.alloc (.cells cs 3)) = .ok (.int .i64 k) w3) ∧ RMid (u.alloc (.cells cs 3)) w3 u.heap.size n k := by
  have hb := blk_new u (.cells cs 3)
  have h0 : RMid (u.alloc (.cells cs 3)) (u.alloc (.cells cs 3)) u.heap.size n 0 := ⟨Only.refl _, fun j hj => ⟨by rw [blk_cell hb, hcz j hj, if_neg (by omega)], blk_frozen hb j⟩⟩
  have hx2 : (u.alloc (.cells cs 3)).cell? ⟨p, 0, none⟩ = some (.int .i64 (-1)) := by
    rw [← hx]
    exact (below_alloc (Below.refl u.heap.size u) (.cells cs 3)).cell (p := ⟨p, 0, none⟩) (cell_lt hx)
  have hst := h0.step k (by omega)
  rw [Nat.zero_add] at hst
  refine ⟨_, fun ty => run_copy_ones (u.alloc (.cells cs 3)) u.heap.size 0 n n ⟨p, 0, none⟩ 1 1 k hk (fun j hj => ?_) (fun j hj => ?_) ty, hst⟩
  · obtain rfl : j = 0 := by omega
    exact hx2
  · rw [Nat.zero_add]
    exact ⟨by rw [(h0.cell j (by omega)).1]; rfl, (h0.cell j (by omega)).2⟩

theorem rep_next (wB wr : World) (g n m : Nat) (h : RMid wB wr g n m) (hm : m < n) (h0 : 0 < m) :
    ∃ w3, (∀ ty, (Builtin.copy_ #[35, 35] ty #[.slice (some ⟨g, m, none⟩) (n - m) (n - m), .slice (some ⟨g, 0, none⟩) m n]).run Try.prog wr.drew = .ok (.int .i64 ((min m (n - m) : Nat) : Int)) w3) ∧ RMid wB w3 g n (m + min m (n - m)) := by
  have h2 : RMid wB wr.drew g n m := ⟨h.only.drew, h.cell⟩
  refine ⟨_, fun ty => run_copy_ones wr.drew g m (n - m) (n - m) ⟨g, 0, none⟩ m n (min m (n - m)) rfl (fun j hj => ?_) (fun j hj => ?_) ty, h2.step (min m (n - m)) (by omega)⟩
  · rw [add_at, Nat.zero_add, (h2.cell j (by omega)).1, if_pos (by omega)]
  · exact ⟨by rw [(h2.cell (m + j) (by omega)).1]; rfl, (h2.cell (m + j) (by omega)).2⟩

theorem rep_from (g n m : Nat) (hm : m < n) (hn : n ≤ 1000000) (W : World) : (Instr.slice 35 (.slice (some ⟨g, 0, none⟩) n n) (some (.int .i64 m)) none none).run Try.prog W = .ok (.slice (some ⟨g, m, none⟩) (n - m) (n - m)) W := by
  obtain ⟨i0, hi, hz0, hz1, hz2⟩ := info_parts infoInt
  have := cut_from (P := Try.prog) 35 3 .i64 Try.underlying35 hi 1 hz1 (some ⟨g, 0, none⟩) n n (m : Int) (by omega) (by omega) W
  have hne : n ≠ m := by omega
  simpa [hne, add_at] using this
theorem rep_to (g n m : Nat) (hm : m < n) (hn : n ≤ 1000000) (W : World) : (Instr.slice 35 (.slice (some ⟨g, 0, none⟩) n n) none (some (.int .i64 m)) none).run Try.prog W = .ok (.slice (some ⟨g, 0, none⟩) m n) W := by
  obtain ⟨i0, hi, hz0, hz1, hz2⟩ := info_parts infoInt
  have := cut_to (P := Try.prog) 35 3 .i64 Try.underlying35 hi (some ⟨g, 0, none⟩) n n (m : Int) (by omega) (by omega) (Nat.le_refl _) W
  simpa using this

set_option maxHeartbeats 8000000 in
set_option maxRecDepth 100000 in
theorem repeat1 (p n : Nat) (w : World) (hx : w.cell? ⟨p, 0, none⟩ = some (.int .i64 (-1))) (hn : n ≤ 1000000) :
    Calls Try.prog 25 #[.slice (some ⟨p, 0, none⟩) 1 1, .int .i64 n] w fun e w' => ∃ v, e = .returned v ∧ Kd.R (Kd.int .i64) 3 w' w.heap.size (fun j => w.heap.size ≤ j) v (List.replicate n (-1)) ∧ Below w.heap.size w w' := by
  obtain ⟨cs, hcs, hcz, hmk⟩ := makeInt n hn
  have HCS := Lib.hid hcs
  have HCZ := Aside0.mk hcz
  have HM := Aside0.mk (fun u => bits_Mul.calls 1 n 0 n u (mul_one' n hn))
  clear hcs hcz
  obtain ⟨k, hk⟩ : ∃ k, k = min 1 n := ⟨_, rfl⟩
  have HK := Lib.hid hk
  have hk2 : k ≤ 1 := by omega
  clear hk
  go_enter Try.func25, Try.ntmps25
  go_wp2_with (first | (go_at_call 31; refine (HM.out _).mono ?_; rintro e w' ⟨rfl, ⟨nd, rfl⟩⟩; obtain ⟨w3, hcp, hrm⟩ := rep_start (w.drewN nd) p n k cs HK.out HCS.out HCZ.out hx; have HRM := Aside0.mk hrm; clear hrm; replace hcp : ∀ ty, (Builtin.copy_ #[35, 35] ty #[.slice (some ⟨w.heap.size, 0, none⟩) n n, .slice (some ⟨p, 0, none⟩) 1 1]).run Try.prog ((w.drewN nd).alloc (.cells cs 3)) = .ok (.int .i64 k) w3 := hcp))
  go_loopw [8] (fun v wr => ∃ m : Nat, m ≤ n ∧ k ≤ m ∧ v = .int .i64 m ∧ Aside0 (RMid ((w.drewN nd).alloc (.cells cs 3)) wr w.heap.size n m)) (fun v _ => n - (intOf v).toNat)
  case atStart => exact ⟨k, by have := HK.out; omega, Nat.le_refl _, rfl, HRM⟩
  case round =>
    obtain ⟨m, hm, hkm, rfl, HD⟩ := hrel
    by_cases hlt : m < n
    · have h0 : 0 < m := by have := HK.out; omega
      obtain ⟨w4, hc4, hr4⟩ := rep_next _ wr w.heap.size n m HD.out hlt h0
      have HR4 := Aside0.mk hr4
      have hs1 := rep_from w.heap.size n m hlt hn
      have hs2 := rep_to w.heap.size n m hlt hn
      obtain ⟨q, hq⟩ : ∃ q, q = min m (n - m) := ⟨_, rfl⟩
      rw [← hq] at hc4
      have HQ := Lib.hid hq
      have hq2 : q ≤ 1000000 := by omega
      clear hr4 hq
      go_wp2
      go_region
      have hqm := HQ.out
      go_wp2
      go_roundw
      case rel => exact ⟨m + q, by omega, by omega, by go_num, ⟨by rw [HQ.out]; exact HR4.out⟩⟩
      case measure => simp [intOf]; omega
    · have hmn : m = n := by omega
      have HE := Aside0.mk HD.out
      rw [hmn] at HE
      clear hmn
      have hb := blk_new (w.drewN nd) (.cells cs 3)
      have HF := Aside0.mk (HE.out.own hb HCS.out (by unfold maxLen; omega) w.heap.size (Nat.le_refl _))
      have HG := Aside0.mk ((below_alloc (pw_below_drewN (Below.refl w.heap.size w) nd) (.cells cs 3)).trans (HE.out.only.below (B := w.heap.size) (by simp) (fun k i h => by omega)))
      clear hb
      go_wp2
      go_ret
      exact ⟨_, rfl, HF.out, HG.out⟩

end Go.Proofs.Ytghdeoeajbnfkaa.WSl
