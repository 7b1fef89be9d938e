/- ShareMade: NewPool is what is specified. -/
import Derived.Test.YtnikkejfpnnmcaaBook
import Derived.Test.YtnikkejfpnnmcaaWLast
import Derived.Test.YtnikkejfpnnmcaaWMore
import Derived.Laws.IdiomRangeMap
import Derived.Maps.RangeRun
import Derived.IntWalk
import Derived.Deep.RegionHeld3
import Derived.Deep.DeepCutAuto
namespace Go.Proofs.Ytnikkejfpnnmcaa.Share
set_option linter.unusedVariables false
open Go.RowKit Go.Proofs.YtnikkejfpnnmcaaW.PrintWords Go.Proofs.YtnikkejfpnnmcaaW.PrintLast Go.Proofs.YtnikkejfpnnmcaaW.PrintMore Go.Proofs.Ytnikkejfpnnmcaa.Book Go.Proofs.Ytnikkejfpnnmcaa.MapInt
set_option linter.unusedSimpArgs false


set_option maxRecDepth 100000 in
theorem bitsLen64 (w : World) : Calls Try.prog 37 #[.int .u64 0] w fun e w' => e = .returned (.int .i64 0) ∧ w = w' := by
  go_enter Try.func37, Try.ntmps37
  go_wp2
  go_ret
  exact ⟨by kernel_rfl, rfl⟩
set_option maxRecDepth 100000 in
theorem bitsLen0 (w : World) : Calls Try.prog 23 #[.int .u64 0] w fun e w' => e = .returned (.int .i64 0) ∧ w = w' := by
  go_enter Try.func23, Try.ntmps23
  go_wp2_with (go_at_call 37; refine (bitsLen64 _).mono ?_; rintro e w' ⟨rfl, rfl⟩)
  go_ret
  exact ⟨rfl, rfl⟩

set_option maxHeartbeats 1000000 in
set_option maxRecDepth 100000 in
theorem insert0 (A : Option Addr) (c : Nat) (w : World) : Calls Try.prog 27 #[.slice A 0 c, .int .i64 0, .int .i64 0] w fun e w' => e = .returned (.tuple #[]) ∧ w = w' := by
  go_enter Try.func27, Try.ntmps27
  go_wp2
  go_loopw [6, 7] (fun i _ (wr : World) => i = .int .i64 1 ∧ w = wr) (fun _ _ _ => 0)
  case atStart => exact ⟨rfl, rfl⟩
  case round =>
    obtain ⟨rfl, rfl⟩ := hrel
    go_wp2
    go_end0
    exact ⟨rfl, rfl⟩
set_option maxHeartbeats 1000000 in
set_option maxRecDepth 100000 in
theorem insertCmp0 (A : Option Addr) (c : Nat) (f : Value) (w : World) : Calls Try.prog 38 #[.slice A 0 c, .int .i64 0, .int .i64 0, f] w fun e w' => e = .returned (.tuple #[]) ∧ w = w' := by
  go_enter Try.func38, Try.ntmps38
  go_wp2
  go_loopw [8, 9] (fun i _ (wr : World) => i = .int .i64 1 ∧ w = wr) (fun _ _ _ => 0)
  case atStart => exact ⟨rfl, rfl⟩
  case round =>
    obtain ⟨rfl, rfl⟩ := hrel
    go_wp2
    go_end0
    exact ⟨rfl, rfl⟩

set_option maxHeartbeats 1000000 in
set_option maxRecDepth 100000 in
theorem pdq0 (A : Option Addr) (c : Nat) (w : World) : Calls Try.prog 22 #[.slice A 0 c, .int .i64 0, .int .i64 0, .int .i64 0] w fun e w' => e = .returned (.tuple #[]) ∧ w = w' := by
  go_enter Try.func22, Try.ntmps22
  go_wp2
  go_loopw [1, 2, 3, 8, 9, 10, 11, 12, 13, 14, 15, 16, 17, 18] (fun a b _ _ _ _ _ _ _ _ _ _ _ _ (wr : World) => a = .int .i64 0 ∧ b = .int .i64 0 ∧ w = wr) (fun _ _ _ _ _ _ _ _ _ _ _ _ _ _ _ => 0)
  case atStart => exact ⟨rfl, rfl, rfl⟩
  case round =>
    obtain ⟨rfl, rfl, rfl⟩ := hrel
    go_wp2_with (go_at_call 27; refine (insert0 _ _ _).mono ?_; rintro e w' ⟨rfl, rfl⟩)
    (try simp only [Exit.inBlock, Exit.then]); refine bodyPost_ret (results_none rfl _ _ _) rfl ?_
    exact ⟨rfl, rfl⟩
set_option maxRecDepth 100000 in
theorem sort0 (A : Option Addr) (c : Nat) (w : World) : Calls Try.prog 14 #[.slice A 0 c] w fun e w' => e = .returned (.tuple #[]) ∧ w = w' := by
  go_enter Try.func14, Try.ntmps14
  go_wp2_with (first | (go_at_call 23; refine (bitsLen0 _).mono ?_; rintro e w' ⟨rfl, rfl⟩) | (go_at_call 22; refine (pdq0 _ _ _).mono ?_; rintro e w' ⟨rfl, rfl⟩))
  go_end0
  exact ⟨rfl, rfl⟩
set_option maxHeartbeats 1000000 in
set_option maxRecDepth 100000 in
theorem pdqCmp0 (A : Option Addr) (c : Nat) (f : Value) (w : World) : Calls Try.prog 24 #[.slice A 0 c, .int .i64 0, .int .i64 0, .int .i64 0, f] w fun e w' => e = .returned (.tuple #[]) ∧ w = w' := by
  go_enter Try.func24, Try.ntmps24
  go_wp2
  go_loopw [1, 2, 3, 10, 11, 12, 13, 14, 15, 16, 17, 18, 19, 20] (fun a b _ _ _ _ _ _ _ _ _ _ _ _ (wr : World) => a = .int .i64 0 ∧ b = .int .i64 0 ∧ w = wr) (fun _ _ _ _ _ _ _ _ _ _ _ _ _ _ _ => 0)
  case atStart => exact ⟨rfl, rfl, rfl⟩
  case round =>
    obtain ⟨rfl, rfl, rfl⟩ := hrel
    go_wp2_with (go_at_call 38; refine (insertCmp0 _ _ _ _).mono ?_; rintro e w' ⟨rfl, rfl⟩)
    (try simp only [Exit.inBlock, Exit.then]); refine bodyPost_ret (results_none rfl _ _ _) rfl ?_
    exact ⟨rfl, rfl⟩
set_option maxRecDepth 100000 in
theorem sortFunc0 (A : Option Addr) (c : Nat) (f : Value) (w : World) : Calls Try.prog 15 #[.slice A 0 c, f] w fun e w' => e = .returned (.tuple #[]) ∧ w = w' := by
  go_enter Try.func15, Try.ntmps15
  go_wp2_with (first | (go_at_call 23; refine (bitsLen0 _).mono ?_; rintro e w' ⟨rfl, rfl⟩) | (go_at_call 24; refine (pdqCmp0 _ _ _ _).mono ?_; rintro e w' ⟨rfl, rfl⟩))
  go_end0
  exact ⟨rfl, rfl⟩

/-- A pool in memory that has no string. -/
structure PoolAt (w : World) (r m1 m2 : Nat) (c0 : Value) (owner size : Int) : Prop where
  head : w.heap[r]? = some (.cells #[c0, .int .i64 owner, .int .i64 size, .bool false, .int .i64 0, .int .i64 0, .map (some m1), .map (some m2)] 44)
  blocks : w.heap[m1]? = some (.map #[] 0)
  strs : w.heap[m2]? = some (.map #[] 0)
theorem PoolAt.below {w w' : World} {r m1 m2 : Nat} {c0 : Value} {owner size : Int} (h : PoolAt w r m1 m2 c0 owner size) (hb : Below w.heap.size w w') : PoolAt w' r m1 m2 c0 owner size :=
  ⟨(hb.block _ (blk_lt h.head)).trans h.head, (hb.block _ (by
    by_cases hc : m1 < w.heap.size
    · exact hc
    · have := h.blocks; rw [Array.getElem?_eq_none (by omega)] at this; cases this)).trans h.blocks, (hb.block _ (by
    by_cases hc : m2 < w.heap.size
    · exact hc
    · have := h.strs; rw [Array.getElem?_eq_none (by omega)] at this; cases this)).trans h.strs⟩

theorem run_next_none (w : World) (ty : TypeId) (r bm since c0 clock : Nat) (hr : w.heap[r]? = some (.mapIter (some bm) since #[] c0)) (hb : w.heap[bm]? = some (.map #[] clock)) (hsc : since ≤ c0) :
    (Instr.next (.pointer (some ⟨r, 0, none⟩)) false ty).run Try.prog w = .ok (.tuple #[.bool false]) w := by
  rcases run_next_at (P := Try.prog) w ty r bm since c0 #[] #[] clock hr hb (fun x hx => by simp at hx) hsc with ⟨_, h⟩ | ⟨e, he, _⟩
  · exact h
  · simp [leftOf] at he

set_option maxHeartbeats 1000000 in
set_option maxRecDepth 100000 in
theorem strings0 (w : World) (r m1 m2 : Nat) (c0 : Value) (owner size : Int) (h : PoolAt w r m1 m2 c0 owner size) :
    Calls Try.prog 8 #[.pointer (some ⟨r, 0, none⟩)] w fun e w' => e = .returned (.slice none 0 0) ∧ Below w.heap.size w w' := by
  have h7 : w.cell? ⟨r, 7, none⟩ = some (.map (some m2)) := by rw [blk_cell h.head]; rfl
  have hm2 : m2 < w.heap.size := by
    by_cases hc : m2 < w.heap.size
    · exact hc
    · have := h.strs; rw [Array.getElem?_eq_none (by omega)] at this; cases this
  have hrg := run_range_map (P := Try.prog) w 42 _ _ m2 #[] 0 Try.underlying42 h.strs
  have hnx := fun ty => run_next_none (w.alloc (.mapIter (some m2) 0 #[] 0)) ty w.heap.size m2 0 0 0 (blk_new _ _) ((Below.heap_alloc _ _ _ hm2).trans h.strs) (Nat.le_refl _)
  clear h
  go_enter Try.func8, Try.ntmps8
  go_wp2
  go_loopw [3, 4, 10] (fun x _ _ (wr : World) => x = .slice none 0 0 ∧ w.alloc (.mapIter (some m2) 0 #[] 0) = wr) (fun _ _ _ _ => 0)
  case atStart => exact ⟨rfl, rfl⟩
  case round =>
    obtain ⟨rfl, rfl⟩ := hrel
    go_wp2_with (go_at_call 14; refine (sort0 _ _ _).mono ?_; rintro e w' ⟨rfl, rfl⟩)
    go_ret
    exact ⟨rfl, below_alloc (Below.refl _ _) _⟩

set_option maxHeartbeats 1000000 in
set_option maxRecDepth 100000 in
theorem blocks0 (w : World) (r m1 m2 : Nat) (c0 : Value) (owner size : Int) (h : PoolAt w r m1 m2 c0 owner size) :
    Calls Try.prog 9 #[.pointer (some ⟨r, 0, none⟩)] w fun e w' => e = .returned (.slice none 0 0) ∧ Below w.heap.size w w' := by
  have hh := h.below (below_alloc (o := .map #[] 0) (Below.refl w.heap.size w))
  have h7 : (w.alloc (.map #[] 0)).cell? ⟨r, 7, none⟩ = some (.map (some m2)) := by rw [blk_cell hh.head]; rfl
  have hlt : ∀ {W : World} {m : Nat} {o : Obj}, W.heap[m]? = some o → m < W.heap.size := fun {W} {m} {o} h => by
    by_cases hc : m < W.heap.size
    · exact hc
    · rw [Array.getElem?_eq_none (by omega)] at h; cases h
  have hh2 := hh.below (below_alloc (o := .mapIter (some m2) 0 #[] 0) (Below.refl (w.alloc (.map #[] 0)).heap.size (w.alloc (.map #[] 0))))
  have hh3 := hh2.below (below_alloc (o := .mapIter (some m1) 0 #[] 0) (Below.refl _ ((w.alloc (.map #[] 0)).alloc (.mapIter (some m2) 0 #[] 0))))
  have h6 : ((w.alloc (.map #[] 0)).alloc (.mapIter (some m2) 0 #[] 0)).cell? ⟨r, 6, none⟩ = some (.map (some m1)) := by rw [blk_cell hh2.head]; rfl
  have hmm := @run_makeMap Try.prog
  have hrg := run_range_map (P := Try.prog) (w.alloc (.map #[] 0)) 42 _ _ m2 #[] 0 Try.underlying42 hh.strs
  have hrg2 := run_range_map (P := Try.prog) ((w.alloc (.map #[] 0)).alloc (.mapIter (some m2) 0 #[] 0)) 41 _ _ m1 #[] 0 Try.underlying41 hh2.blocks
  have hn1 : ((w.alloc (.map #[] 0)).alloc (.mapIter (some m2) 0 #[] 0)).heap[w.heap.size + 1]? = some (.mapIter (some m2) 0 #[] 0) := by
    have := blk_new (w.alloc (.map #[] 0)) (.mapIter (some m2) 0 #[] 0)
    rw [alloc_size] at this; exact this
  have hn2 : (((w.alloc (.map #[] 0)).alloc (.mapIter (some m2) 0 #[] 0)).alloc (.mapIter (some m1) 0 #[] 0)).heap[w.heap.size + 1 + 1]? = some (.mapIter (some m1) 0 #[] 0) := by
    have := blk_new ((w.alloc (.map #[] 0)).alloc (.mapIter (some m2) 0 #[] 0)) (.mapIter (some m1) 0 #[] 0)
    rw [alloc_size, alloc_size] at this; exact this
  have hnx1 := fun ty => run_next_none _ ty (w.heap.size + 1) m2 0 0 0 hn1 hh2.strs (Nat.le_refl _)
  have hnx2 := fun ty => run_next_none _ ty (w.heap.size + 1 + 1) m1 0 0 0 hn2 hh3.blocks (Nat.le_refl _)
  rw [alloc_size] at hrg
  rw [alloc_size, alloc_size] at hrg2
  clear h hh hh2 hh3 hn1 hn2 hlt
  go_enter Try.func9, Try.ntmps9
  go_wp2
  go_loopw [5, 7, 17, 23] (fun _ _ _ _ (wr : World) => ((w.alloc (.map #[] 0)).alloc (.mapIter (some m2) 0 #[] 0)) = wr) (fun _ _ _ _ _ => 0)
  case atStart => rfl
  case round =>
    subst hrel
    go_wp2
    go_loopw [8, 9, 10, 38] (fun x _ _ _ (wr : World) => x = .slice none 0 0 ∧ (((w.alloc (.map #[] 0)).alloc (.mapIter (some m2) 0 #[] 0)).alloc (.mapIter (some m1) 0 #[] 0)) = wr) (fun _ _ _ _ _ => 0)
    case atStart => exact ⟨rfl, rfl⟩
    case round =>
      obtain ⟨rfl, rfl⟩ := hrel
      go_wp2_with (go_at_call 15; refine (sortFunc0 _ _ _ _).mono ?_; rintro e w' ⟨rfl, rfl⟩)
      go_ret
      exact ⟨rfl, below_alloc (below_alloc (below_alloc (Below.refl _ _) _) _) _⟩

theorem withinS (a lo hi : Int) (w : World) : Calls Try.prog 12 #[.int .i64 a, .int .i64 lo, .int .i64 hi] w fun e w' => e = .returned (.bool (decide (lo ≤ a ∧ a ≤ hi))) ∧ w = w' := by
  by_cases h1 : lo ≤ a
  · by_cases h2 : a ≤ hi
    · go_enter Try.func12, Try.ntmps12
      go_wp2
      go_ret
      exact ⟨by simp [h1, h2], rfl⟩
    · go_enter Try.func12, Try.ntmps12
      go_wp2
      go_ret
      exact ⟨by simp [h2], rfl⟩
  · have h1 : a < lo := by omega
    go_enter Try.func12, Try.ntmps12
    go_wp2
    go_ret
    exact ⟨by simp; omega, rfl⟩

/-- The book that has one account, number 1. -/
def oneBook (limit : Int) : BookS := ⟨10000000, 0, 0, 0, [(1, ⟨limit, 0, 0⟩)], [], [[.int .i64 1, .int .i64 1, .int .i64 0, .int .i64 limit, .int .i64 0, .int .i64 0]]⟩

set_option maxHeartbeats 1000000 in
set_option maxRecDepth 100000 in
theorem book (limit : Int) (h0 : 0 ≤ limit) (h1 : limit ≤ 10000000) (w : World) :
    Calls Try.prog 4 #[.int .i64 limit] w fun e w' => e = .returned (.pointer (some ⟨w.heap.size + 1, 0, none⟩)) ∧
      ∃ q, BookAt w' (w.heap.size + 1) (oneBook limit) q ∧ Below w.heap.size w w' ∧ (∀ k, q.Foot (w.heap.size + 1) k → w.heap.size ≤ k) := by
  have hs : checkS 1 [limit] = 0 := by
    unfold checkS
    rw [if_pos (by decide), if_pos (fun x hx => by rcases List.mem_singleton.1 hx with rfl; exact ⟨h0, h1⟩)]
  have HS := Aside0.mk hs
  clear hs
  go_enter Try.func4, Try.ntmps4
  go_wp2_with (first | (go_at_call 10; refine (newBook 10000000 w (by decide)).mono ?_; rintro e w1 ⟨rfl, hB, hb⟩; have HB := Aside0.mk hB; have Hb := Aside0.mk hb; clear hB hb) | (go_at_call 11; refine (open_ok HB.out 1 limit HS.out rfl (by decide)).mono ?_; rintro e w2 ⟨rfl, q, hB2, hk, hf⟩; have HB2 := Aside0.mk hB2; have HK := Aside0.mk hk; have HF := Aside0.mk hf; clear hB2 hk hf))
  go_ret
  refine ⟨rfl, q, HB2.out, ?_, ?_⟩
  · have hfoot : ∀ k, Parts.Foot (w.heap.size + 1) ⟨w.heap.size, [], .slice none 0 0, .slice none 0 0⟩ k → w.heap.size ≤ k := fun k hk => by
      rcases hk with h | h | h | h | h
      · omega
      · show w.heap.size ≤ k; exact Nat.le_of_eq h.symm
      · simp at h
      · simp [Value.ownBlock] at h
      · simp [Value.ownBlock] at h
    exact Hb.out.trans (HK.out.below Hb.out.size hfoot)
  · intro k hk
    have hsz := Hb.out.size
    rcases HF.out k hk with h | h
    · rcases h with h | h | h | h | h
      · omega
      · exact Nat.le_of_eq h.symm
      · simp at h
      · simp [Value.ownBlock] at h
      · simp [Value.ownBlock] at h
    · omega
/-- The error of somebody else's number. -/
def strangerS (owner : Int) : Int := if owner < 1 ∨ owner > 40 then 2 else 7
set_option maxRecDepth 100000 in
theorem stranger (owner : Int) (w : World) : Calls Try.prog 6 #[.int .i64 owner] w fun e w' => e = .returned (.int .i64 (strangerS owner)) ∧ w = w' := by
  by_cases h1 : owner < 1
  · have h : strangerS owner = 2 := by unfold strangerS; rw [if_pos (by omega)]
    rw [h]; clear h
    have h1' : decide (owner < 1) = true := decide_eq_true h1
    go_enter Try.func6, Try.ntmps6
    go_wp2
    go_ret
    exact ⟨rfl, rfl⟩
  have h1' : 1 ≤ owner := by omega
  by_cases h2 : 40 < owner
  · have h : strangerS owner = 2 := by unfold strangerS; rw [if_pos (by omega)]
    rw [h]; clear h
    have h2' : decide (40 < owner) = true := decide_eq_true h2
    go_enter Try.func6, Try.ntmps6
    go_wp2
    go_ret
    exact ⟨rfl, rfl⟩
  have h2' : owner ≤ 40 := by omega
  have h : strangerS owner = 7 := by unfold strangerS; rw [if_neg (by omega)]
  rw [h]; clear h
  go_enter Try.func6, Try.ntmps6
  go_wp2
  go_ret
  exact ⟨rfl, rfl⟩

theorem held_one (limit owner : Int) : (heldS (oneBook limit) owner).2 = if owner = 1 then 0 else strangerS owner := by
  unfold heldS strangerS
  by_cases h : owner = 1
  · subst h; rfl
  · rw [if_neg h]
    by_cases h2 : 1 ≤ owner ∧ owner ≤ 40
    · rw [if_pos h2, if_neg (by omega)]
      have : (oneBook limit).acc owner = none := by
        unfold BookS.acc oneBook
        have : ¬ 1 = owner := fun e => h e.symm
        simp [this]
      rw [this]
    · rw [if_neg h2, if_pos (by omega)]



theorem run_len0 {t k e : TypeId} (w : World) (m : Nat) (hb : w.heap[m]? = some (.map #[] 0)) (ht : Try.prog.underlying t = some (.map k e)) (ty : TypeId) : (Builtin.len_ #[t] ty #[.map (some m)]).run Try.prog w = .ok (.int .i64 0) w := by
  simp [Builtin.len_, run_underlying ht, MapKept.run_getObj_map hb, goInt, Result.andThen]

set_option maxHeartbeats 1000000 in
set_option maxRecDepth 100000 in
theorem room0 (w : World) (r m1 m2 : Nat) (c0 : Value) (owner size : Int) (h : PoolAt w r m1 m2 c0 owner size) :
    Calls Try.prog 7 #[.pointer (some ⟨r, 0, none⟩)] w fun e w' => e = .returned (.int .i64 0) ∧ Below w.heap.size w w' := by
  have h2 : w.cell? ⟨r, 2, none⟩ = some (.int .i64 size) := by rw [blk_cell h.head]; rfl
  have h6 : w.cell? ⟨r, 6, none⟩ = some (.map (some m1)) := by rw [blk_cell h.head]; rfl
  have hln := fun (W : World) (hW : W.heap[m1]? = some (.map #[] 0)) => run_len0 W m1 hW Try.underlying41 3
  have hbl : w.drew.heap[m1]? = some (.map #[] 0) := h.blocks
  clear h
  go_enter Try.func7, Try.ntmps7
  go_wp2
  go_cut [2] (fun z9 wx => z9 = .int .i64 0 ∧ wx = w.drew)
  case first =>
    go_region_held3 (fun w' => w'.cell? ⟨r, 2, none⟩ = some (.int .i64 size) ∧ w'.cell? ⟨r, 6, none⟩ = some (.map (some m1)) ∧ w'.heap[m1]? = some (.map #[] 0)) (exact ⟨h2, h6, hbl⟩) ((fail))
    all_goals
      go_wp2
      go_meet
      exact ⟨rfl, rfl⟩
  case rest =>
    obtain ⟨rfl, rfl⟩ := hcut
    go_wp2
    go_ret
    exact ⟨rfl, below_drew (Below.refl _ _)⟩

set_option maxHeartbeats 1000000 in
set_option maxRecDepth 100000 in
theorem newPool_range (p : Nat) (owner size : Int) (w : World) (hs : ¬ (1 ≤ size ∧ size ≤ 4096)) :
    Calls Try.prog 5 #[.pointer (some ⟨p, 0, none⟩), .int .i64 owner, .int .i64 size] w fun e w' => e = .returned (.tuple #[.pointer none, .int .i64 2]) ∧ w = w' := by
  have hd : decide (1 ≤ size ∧ size ≤ 4096) = false := decide_eq_false hs
  clear hs
  go_enter Try.func5, Try.ntmps5
  go_wp2_with (go_at_call 12; refine (withinS _ _ _ _).mono ?_; rintro e w' ⟨rfl, rfl⟩; rw [hd])
  go_ret2
  exact ⟨rfl, rfl⟩
set_option maxHeartbeats 1000000 in
set_option maxRecDepth 100000 in
theorem newPool_bad {p : Nat} {b : BookS} {q : Parts} {w : World} (hB : BookAt w p b q) (owner size : Int) (hs : 1 ≤ size ∧ size ≤ 4096) (hh : (heldS b owner).2 ≠ 0) :
    Calls Try.prog 5 #[.pointer (some ⟨p, 0, none⟩), .int .i64 owner, .int .i64 size] w fun e w' => e = .returned (.tuple #[.pointer none, .int .i64 (heldS b owner).2]) ∧ w = w' := by
  have hd : decide (1 ≤ size ∧ size ≤ 4096) = true := decide_eq_true hs
  have hne : ((heldS b owner).2 != 0) = true := bne_iff_ne.2 hh
  have HH := Aside0.mk (held hB owner)
  clear hs hB
  go_enter Try.func5, Try.ntmps5
  go_wp2_with (first | (go_at_call 12; refine (withinS _ _ _ _).mono ?_; rintro e w' ⟨rfl, rfl⟩; rw [hd]) | (go_at_call 13; refine HH.out.mono ?_; rintro e w' ⟨rfl, rfl⟩))
  go_ret2
  exact ⟨rfl, rfl⟩
set_option maxHeartbeats 1000000 in
set_option maxRecDepth 100000 in
theorem newPool_ok {p : Nat} {b : BookS} {q : Parts} {w : World} (hB : BookAt w p b q) (owner size : Int) (hs : 1 ≤ size ∧ size ≤ 4096) (hh : (heldS b owner).2 = 0) :
    Calls Try.prog 5 #[.pointer (some ⟨p, 0, none⟩), .int .i64 owner, .int .i64 size] w fun e w' => ∃ r m1 m2, e = .returned (.tuple #[.pointer (some ⟨r, 0, none⟩), .int .i64 0]) ∧ PoolAt w' r m1 m2 (.pointer (some ⟨p, 0, none⟩)) owner size ∧ Below w.heap.size w w' := by
  have hd : decide (1 ≤ size ∧ size ≤ 4096) = true := decide_eq_true hs
  have HH := held hB owner
  rw [hh] at HH
  have HH := Aside0.mk HH
  have hmm := @run_makeMap Try.prog
  clear hs hB hh
  go_enter Try.func5, Try.ntmps5
  go_wp2_with (first | (go_at_call 12; refine (withinS _ _ _ _).mono ?_; rintro e w' ⟨rfl, rfl⟩; rw [hd]) | (go_at_call 13; refine HH.out.mono ?_; rintro e w' ⟨rfl, rfl⟩))
  go_ret2
  refine ⟨_, w.heap.size, w.heap.size + 1, rfl, ⟨?_, ?_, ?_⟩, below_alloc (below_alloc (below_alloc (Below.refl _ _) _) _) _⟩
  · have := blk_new ((w.alloc (.map #[] 0)).alloc (.map #[] 0)) (.cells #[.pointer (some ⟨p, 0, none⟩), .int .i64 owner, .int .i64 size, .bool false, .int .i64 0, .int .i64 0, .map (some w.heap.size), .map (some (w.heap.size + 1))] 44)
    simpa using this
  · rw [Below.heap_alloc _ _ _ (by simp; omega), Below.heap_alloc _ _ _ (by simp)]
    exact blk_new w _
  · rw [Below.heap_alloc _ _ _ (by simp)]
    have := blk_new (w.alloc (.map #[] 0)) (.map #[] 0)
    rw [alloc_size] at this
    exact this

set_option maxHeartbeats 2000000 in
set_option maxRecDepth 100000 in
theorem shareMade (owner size : Int) (w : World) (_ : (Lit.int .i64 owner).wf = true) (_ : (Lit.int .i64 size).wf = true) :
    Calls Try.prog 3 #[.int .i64 owner, .int .i64 size] w fun e w' => e = .returned (.bool true) ∧ Below w.heap.size w w' := by
  by_cases hs : 1 ≤ size ∧ size ≤ 4096
  · have d1 : decide (size < 1) = false := decide_eq_false (by omega)
    have d2 : decide (4096 < size) = false := decide_eq_false (by omega)
    by_cases ho : owner = 1
    · subst ho
      go_enter Try.func3, Try.ntmps3
      go_wp2_with fail
      refine (book 100 (by decide) (by decide) _).mono ?_
      rintro e w1 ⟨rfl, q, hB, hb, _⟩
      have Hb1 := Aside0.mk hb
      have hz : (heldS (oneBook 100) 1).2 = 0 := by rw [held_one, if_pos rfl]
      have HN := Aside0.mk (newPool_ok hB 1 size hs hz)
      clear hB hb hz
      go_wp2_with fail
      refine HN.out.mono ?_
      rintro e w2 ⟨r, m1, m2, rfl, hP, hb2⟩
      have HP := Aside0.mk hP
      have Hb2 := Aside0.mk (below_then Hb1.out Hb1.out.size hb2)
      clear hP hb2 HN
      go_wp2_with fail
      refine (room0 _ r m1 m2 _ _ _ HP.out).mono ?_
      rintro e w3 ⟨rfl, hb3⟩
      have HP3 := Aside0.mk (HP.out.below hb3)
      have Hb3 := Aside0.mk (below_then Hb2.out Hb2.out.size hb3)
      clear hb3
      go_wp2_with fail
      refine (strings0 _ r m1 m2 _ _ _ HP3.out).mono ?_
      rintro e w4 ⟨rfl, hb4⟩
      have HP4 := Aside0.mk (HP3.out.below hb4)
      have Hb4 := Aside0.mk (below_then Hb3.out Hb3.out.size hb4)
      clear hb4
      go_wp2_with fail
      refine (blocks0 _ r m1 m2 _ _ _ HP4.out).mono ?_
      rintro e w5 ⟨rfl, hb5⟩
      have Hb5 := Aside0.mk (below_then Hb4.out Hb4.out.size hb5)
      clear hb5
      go_wp2_with fail
      go_ret
      exact ⟨rfl, Hb5.out⟩
    · have hno : (owner != 1) = true := bne_iff_ne.2 ho
      have hsn : strangerS owner ≠ 0 := by unfold strangerS; split <;> omega
      go_enter Try.func3, Try.ntmps3
      go_wp2_with fail
      refine (book 100 (by decide) (by decide) _).mono ?_
      rintro e w1 ⟨rfl, q, hB, hb, _⟩
      have Hb1 := Aside0.mk hb
      have hz : (heldS (oneBook 100) owner).2 = strangerS owner := by rw [held_one, if_neg ho]
      have HN := newPool_bad hB owner size hs (by rw [hz]; exact hsn)
      rw [hz] at HN
      have HN := Aside0.mk HN
      clear hB hb hz
      go_wp2_with fail
      refine HN.out.mono ?_
      rintro e w2 ⟨rfl, rfl⟩
      clear HN
      go_wp2_with (go_at_call 6; refine (stranger _ _).mono ?_; rintro e w' ⟨rfl, rfl⟩)
      go_ret
      exact ⟨rfl, Hb1.out⟩
  · have hd : decide (size < 1) = true ∨ (decide (size < 1) = false ∧ decide (4096 < size) = true) := by
      by_cases h : size < 1
      · exact .inl (decide_eq_true h)
      · exact .inr ⟨decide_eq_false h, decide_eq_true (by omega)⟩
    rcases hd with d1 | ⟨d1, d2⟩
    all_goals
      go_enter Try.func3, Try.ntmps3
      go_wp2_with fail
      refine (book 100 (by decide) (by decide) _).mono ?_
      rintro e w1 ⟨rfl, q, hB, hb, _⟩
      have Hb1 := Aside0.mk hb
      clear hB hb
      go_wp2_with fail
      refine (newPool_range _ owner size _ hs).mono ?_
      rintro e w2 ⟨rfl, rfl⟩
      go_wp2_with fail
      go_ret
      exact ⟨rfl, Hb1.out⟩
end Go.Proofs.Ytnikkejfpnnmcaa.Share
