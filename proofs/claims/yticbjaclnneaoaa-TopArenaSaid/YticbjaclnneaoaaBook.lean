/- The book: what it is in memory, and what its small functions do. -/
import Derived.Test.YticbjaclnneaoaaMapInt
import Derived.Test.YticbjaclnneaoaaProg
import Derived.Test.YticbjaclnneaoaaWWords
import Derived.Test.YticbjaclnneaoaaWLast
import Derived.Test.YticbjaclnneaoaaWKept
import Derived.Test.YticbjaclnneaoaaWMore
import Derived.WalkKit
import Derived.WalkSpells
import Derived.KernelRfl
import Derived.RowKit3
import Derived.OwnWalk
import Derived.Lib.Hide
import Derived.Deep.RegionLaw
import Derived.StillTailTactics
import Derived.Deep.QuietTactic
import Derived.BigQuiet
namespace Go.Proofs.Yticbjaclnneaoaa.Book
open Go.RowKit Go.Proofs.YticbjaclnneaoaaW.PrintWords Go.Proofs.YticbjaclnneaoaaW.PrintLast Go.Proofs.YticbjaclnneaoaaW.PrintMore Go.Proofs.Yticbjaclnneaoaa.MapInt

/-- What was there stays, but for the blocks of S. -/
structure Upd (S : Nat → Prop) (w w' : World) : Prop where
  os : w'.os = w.os
  tape : w'.tape = w.tape
  output : w'.output = w.output
  size : w.heap.size ≤ w'.heap.size
  block : ∀ k, k < w.heap.size → ¬ S k → w'.heap[k]? = w.heap[k]?
theorem Upd.refl (S : Nat → Prop) (w : World) : Upd S w w := ⟨rfl, rfl, rfl, Nat.le_refl _, fun _ _ _ => rfl⟩
theorem Upd.of_below {S : Nat → Prop} {w w' : World} (h : Below w.heap.size w w') : Upd S w w' := ⟨h.os, h.tape, h.output, h.size, fun k hk _ => h.block k hk⟩
theorem Upd.then {S S2 : Nat → Prop} {w w1 w2 : World} (h : Upd S w w1) (h2 : Upd S2 w1 w2) (hs : ∀ k, S2 k → S k ∨ w.heap.size ≤ k) : Upd S w w2 :=
  ⟨h2.os.trans h.os, h2.tape.trans h.tape, h2.output.trans h.output, Nat.le_trans h.size h2.size, fun k hk hn => (h2.block k (Nat.lt_of_lt_of_le hk h.size) (fun h3 => (hs k h3).elim hn (fun h4 => by omega))).trans (h.block k hk hn)⟩
theorem Upd.mono {S S' : Nat → Prop} {w w' : World} (h : Upd S w w') (hs : ∀ k, S k → S' k) : Upd S' w w' := ⟨h.os, h.tape, h.output, h.size, fun k hk hn => h.block k hk (fun h2 => hn (hs k h2))⟩
theorem Upd.below {S : Nat → Prop} {w w' : World} {B : Nat} (h : Upd S w w') (hB : B ≤ w.heap.size) (hs : ∀ k, S k → B ≤ k) : Below B w w' :=
  ⟨h.os, h.tape, h.output, h.size, fun k hk => h.block k (Nat.lt_of_lt_of_le hk hB) (fun h2 => by have := hs k h2; omega)⟩
theorem Upd.of_grown {S : Nat → Prop} {w w' : World} {r : Option Nat} (h : w.grownBy w' r) (hs : ∀ k, some k = r → S k) : Upd S w w' := ⟨h.os, h.tape, h.output, h.size, fun k hk hn => h.block k hk (fun e => hn (hs k e))⟩
theorem Upd.setCell {S : Nat → Prop} {w w' : World} (h : Upd S w w') (p : Addr) (hp : S p.block ∨ w.heap.size ≤ p.block) (v : Value) : Upd S w (w'.setCell p v) :=
  ⟨h.os, h.tape, h.output, by have h1 := h.size; have h2 : (w'.setCell p v).heap.size = w'.heap.size := by simp [World.setCell]
                              omega,
   fun k hk hn => by
    have hkp : k ≠ p.block := fun e => by rcases hp with h1 | h1
                                          · exact hn (e ▸ h1)
                                          · omega
    rw [Below.heap_setCell w' p v k hkp, h.block k hk hn]⟩

structure Acc where
  limit : Int
  held : Int
  leased : Int
structure BookS where
  budget : Int
  total : Int
  time : Int
  last : Int
  accs : List (Int × Acc)
  leases : List (List Value)
  entries : List (List Value)

/-- The cells of a list of structs, each of which has so many. -/
def flat (l : List (List Value)) : List Value := l.flatten

/-- The book's parts: the map's block, the accounts' blocks, the rows. -/
structure Parts where
  mb : Nat
  gs : List Nat
  lv : Value
  ev : Value

def accCells (a : Acc) : Obj := .cells #[.int .i64 a.limit, .int .i64 a.held, .int .i64 a.leased] 64
def Parts.Foot (p : Nat) (q : Parts) (k : Nat) : Prop := k = p ∨ k = q.mb ∨ k ∈ q.gs ∨ some k = q.lv.ownBlock ∨ some k = q.ev.ownBlock

def Parts.M (q : Parts) (b : BookS) : List (Int × Value) := (b.accs.zip q.gs).map fun x => (x.1.1, .pointer (some ⟨x.2, 0, none⟩))

structure BookAt (w : World) (p : Nat) (b : BookS) (q : Parts) : Prop where
  head : w.heap[p]? = some (.cells #[.int .i64 b.budget, .int .i64 b.total, .int .i64 b.time, .int .i64 b.last, .map (some q.mb), q.lv, q.ev] 60)
  map : IntMap w q.mb (q.M b)
  len : q.gs.length = b.accs.length
  nodup : q.gs.Nodup
  boxes : ∀ (i g : Nat), q.gs[i]? = some g → ∃ a : Int × Acc, b.accs[i]? = some a ∧ w.heap[g]? = some (accCells a.2)
  leases : w.ownsRow 0 127 4 q.lv b.leases.length (flat b.leases)
  entries : w.ownsRow 0 67 6 q.ev b.entries.length (flat b.entries)
  few : b.entries.length ≤ 10000
  fewL : b.leases.length ≤ 200
  plain : ∀ e ∈ b.entries, e.length = 6 ∧ ∀ u ∈ e, u.oneCell' = true

/-- append(v, x) of one element that lies in a block of its own, v a row of one's own: as a step of a region. -/
theorem step_append_own {P : Program} {ops : Array Oper} {o : Oper} {a : Act} {w : World} {K : Act → World → Prop} {Q : Exit → Act → World → Prop} {E : Prop}
    (hg : o.guard = none) (s x : Operand) (t : TypeId) (hop : o.op = Op.call { callee := Callee.builtin Builtin.append, args := #[s, x], argTypes := #[t, t] })
    (e : TypeId) (z : Value) (size bytes : Nat) (ht : P.underlying t = some (.slice e)) (hinfo : (P.info? e).map (fun i => (i.zero, i.size, i.bytes)) = some (some z, size, bytes)) (hz : z.cells.size = size) (hs0 : 0 < size) (hb0 : 0 < bytes)
    (v : Value) (n : Nat) (xs ys : List Value) (hs : a.eval s = v) (g0 : Nat) (hx : a.eval x = .slice (some ⟨g0, 0, none⟩) 1 1) (hys : ys.length = size) (h1 : ∀ u ∈ ys, u.oneCell' = true)
    (hb : w.heap[g0]? = some (.cells ys.toArray e)) (HO : w.ownsRow 0 e size v n xs) (hl : (n + 1) * bytes ≤ 140737488355328)
    (hK : ∀ g cap w1, w1.ownsRow 0 e size (.slice (some ⟨g, 0, none⟩) (n + 1) cap) (n + 1) (xs ++ ys) → w.grownBy w1 v.ownBlock → (some g = v.ownBlock ∨ w.heap.size ≤ g) → K (a.put o.dst (.slice (some ⟨g, 0, none⟩) (n + 1) cap)) w1) :
    if Region.wanted o (yielded ops a.tmps) = true then Oper.wp P o a w K Q else E := by
  have hw : Region.wanted o (yielded ops a.tmps) = true := by simp [Region.wanted, hg]
  rw [if_pos hw]
  obtain ⟨i0, hi, hzz⟩ := Option.map_eq_some_iff.1 hinfo
  simp only [Prod.mk.injEq] at hzz
  obtain ⟨hz0, hz1, hz2⟩ := hzz
  have hlen : n + 1 ≤ 140737488355328 := Nat.le_trans (Nat.le_mul_of_pos_right _ hb0) hl
  obtain ⟨v1, w1, hr, hown, hgr, _, hat⟩ := run_append_own_at (P := P) w 0 t o.type e i0 z size bytes ht hi hz0 hz1 hz2 hz hs0 v n xs HO ⟨g0, 0, none⟩ 1 1 ys (by rw [hys]; simp)
    (by simpa using World.news_of_block (cs := ys.toArray) (t := e) (fr := (0, 0)) hb) h1 (by simp only [maxLen]; omega) hl (Nat.zero_le _)
  unfold Oper.wp execOp
  simp only [hop, resolve, invoke, builtin, Sem.run_bind, Sem.run_pure, Result.andThen_ok, List.map_toArray, List.map_cons, List.map_nil, hs, hx, hr]
  rcases hown.2 with ⟨_, h0⟩ | ⟨g, cap, cur, rfl, _⟩
  · omega
  · refine hK g cap w1 hown hgr ?_
    rcases hat with hat | hat
    · left; rw [← hat]; rfl
    · right
      have : w.heap.size = g := by simpa [Value.ownBlock] using hat.symm
      omega

theorem alloc_size (w : World) (o : Obj) : (w.alloc o).heap.size = w.heap.size + 1 := by
  show (w.heap.push o).size = _
  exact Array.size_push ..
theorem two_new (w : World) (A B : Obj) : ((w.alloc A).alloc B).heap[w.heap.size + 1]? = some B := by
  have h := blk_new (w.alloc A) B
  rwa [alloc_size] at h
theorem two_old (w : World) (A B : Obj) (p : Nat) (h : p < w.heap.size) : ((w.alloc A).alloc B).heap[p]? = w.heap[p]? := by
  rw [Below.heap_alloc _ B p (by rw [alloc_size]; omega), Below.heap_alloc _ A p h]
theorem two_size (w : World) (A B : Obj) : w.heap.size ≤ ((w.alloc A).alloc B).heap.size := by
  rw [alloc_size, alloc_size]; omega
/-- A block that is not the row's, behind an append to the row: what its cell 6 holds. -/
theorem keeps_cell {w W w1 : World} {p : Nat} {cs : Array Value} {t : TypeId} {v : Value} (hb : w.heap[p]? = some (.cells cs t)) (hne : some p ≠ v.ownBlock) (hW : W.heap[p]? = w.heap[p]?) (hg : W.grownBy w1 v.ownBlock) (i : Nat) :
    w1.cell? ⟨p, i, none⟩ = cs[i]? ∧ w1.frozen? ⟨p, i, none⟩ = false := by
  have h1 : w1.heap[p]? = some (.cells cs t) := blk_grown (hW.trans hb) hg hne
  exact ⟨blk_cell h1 i, blk_frozen h1 i⟩
theorem infoE : (Try.prog.info? 67).map (fun i => (i.zero, i.size, i.bytes)) = some (some (.agg #[.int .i64 0, .int .i64 0, .int .i64 0, .int .i64 0, .int .i64 0, .int .i64 0]), 6, 48) := by kernel_rfl

theorem note_done {w W w1 : World} {p g n m cap : Nat} {c0 c1 c2 c3 c4 c5 ev : Value} {cs : List Value} {e : Nat} (hW : Below w.heap.size w W)
    (hb : w.heap[p]? = some (.cells #[c0, c1, c2, c3, c4, c5, ev] 60)) (hne : some p ≠ ev.ownBlock)
    (HO : w1.ownsRow 0 e 6 (.slice (some ⟨g, 0, none⟩) n cap) m cs) (HG : W.grownBy w1 ev.ownBlock) (HA : some g = ev.ownBlock ∨ W.heap.size ≤ g) :
    (w1.setCell ⟨p, 6, none⟩ (.slice (some ⟨g, 0, none⟩) n cap)).heap[p]? = some (.cells #[c0, c1, c2, c3, c4, c5, .slice (some ⟨g, 0, none⟩) n cap] 60) ∧
      (w1.setCell ⟨p, 6, none⟩ (.slice (some ⟨g, 0, none⟩) n cap)).ownsRow 0 e 6 (.slice (some ⟨g, 0, none⟩) n cap) m cs ∧
      Upd (fun k => k = p ∨ some k = ev.ownBlock) w (w1.setCell ⟨p, 6, none⟩ (.slice (some ⟨g, 0, none⟩) n cap)) ∧
      (∀ k, some k = (Value.slice (some ⟨g, 0, none⟩) n cap).ownBlock → some k = ev.ownBlock ∨ w.heap.size ≤ k) := by
  have hpl := blk_lt hb
  have hsz := hW.size
  have hgp : g ≠ p := by
    rcases HA with h | h
    · intro e; rw [e] at h; exact hne h
    · omega
  have hb1 : w1.heap[p]? = some (.cells #[c0, c1, c2, c3, c4, c5, ev] 60) := blk_grown ((hW.block p hpl).trans hb) HG hne
  refine ⟨?_, own_setCell HO (by simpa [Value.ownBlock] using Ne.symm hgp) _, ?_, ?_⟩
  · have := blk_set hb1 6 (.slice (some ⟨g, 0, none⟩) n cap)
    simpa using this
  · exact ((Upd.of_below hW).then (Upd.of_grown (S := fun k => some k = ev.ownBlock) HG (fun k hk => hk)) (fun k hk => .inl (.inr hk))).setCell ⟨p, 6, none⟩ (.inl (.inl rfl)) _
  · intro k hk
    have : k = g := by simpa [Value.ownBlock] using hk
    subst this
    rcases HA with h | h
    · exact .inl h
    · exact .inr (by omega)

set_option maxHeartbeats 1000000 in
set_option maxRecDepth 100000 in
theorem note_low (p : Nat) (c0 c1 c2 c3 c4 c5 ev : Value) (n : Nat) (cs : List Value) (e0 e1 e2 e3 e4 e5 : Int) (w : World) (hn : n < 10000)
    (hb : w.heap[p]? = some (.cells #[c0, c1, c2, c3, c4, c5, ev] 60)) (ho : w.ownsRow 0 67 6 ev n cs) :
    Calls Try.prog 24 #[.pointer (some ⟨p, 0, none⟩), .agg #[.int .i64 e0, .int .i64 e1, .int .i64 e2, .int .i64 e3, .int .i64 e4, .int .i64 e5]] w fun e w' => e = .returned (.tuple #[]) ∧
      ∃ ev', w'.heap[p]? = some (.cells #[c0, c1, c2, c3, c4, c5, ev'] 60) ∧ w'.ownsRow 0 67 6 ev' (n + 1) (cs ++ [.int .i64 e0, .int .i64 e1, .int .i64 e2, .int .i64 e3, .int .i64 e4, .int .i64 e5]) ∧
        Upd (fun k => k = p ∨ some k = ev.ownBlock) w w' ∧ (∀ k, some k = ev'.ownBlock → some k = ev.ownBlock ∨ w.heap.size ≤ k) := by
  have HO := Aside0.mk ho
  have hpl := blk_lt hb
  have hc6 : w.cell? ⟨p, 6, none⟩ = some ev := by rw [blk_cell hb]; rfl
  have hne : some p ≠ ev.ownBlock := fun h => by have := own_ne ho hb (by decide); exact this h
  have hf6 : w.frozen? ⟨p, 6, none⟩ = false := blk_frozen hb 6
  clear ho
  have hd : decide (10000 < (n : Int) + 1) = false := by simp; omega
  go_enter Try.func24, Try.ntmps24
  go_wp2
  go_region_law (refine step_append_own rfl (.tmp 9) (.tmp 11) 58 rfl 67 _ 6 48 Try.underlying58 infoE rfl (by decide) (by decide) ev n cs [.int .i64 e0, .int .i64 e1, .int .i64 e2, .int .i64 e3, .int .i64 e4, .int .i64 e5] (by simp [Act.eval]) (w.heap.size + 1) (by simp [Act.eval]) rfl (by simp [Value.oneCell']) (by show ((w.alloc _).alloc _).heap[w.heap.size + 1]? = _; exact two_new _ _ _) (by repeat (first | exact HO.out | apply World.ownsRow.drew | apply World.ownsRow.alloc)) (by omega) ?_; intro g cap w1 ho hgr hat; have hk := keeps_cell hb hne (by show ((w.alloc _).alloc _).heap[p]? = _; exact two_old _ _ _ _ hpl) hgr 6; have hk1 := hk.1; have hk2 := hk.2; clear hk; simp at hk1; have HO1 := Aside0.mk ho; have HG1 := Aside0.mk hgr; have HA1 := Aside0.mk hat; clear ho hgr hat)
  all_goals
    have hdd := note_done (w := w) (by exact below_drew (below_alloc (below_alloc (Below.refl _ _) _) _)) hb hne HO1.out HG1.out HA1.out
    have HD := Aside0.mk hdd
    clear hdd
    clear HG1 HA1 HO1
    go_wp2
    go_end0
    exact ⟨rfl, _, HD.out.1, HD.out.2.1, HD.out.2.2⟩

/-! ### within, check, account, Held -/
set_option maxRecDepth 100000 in
theorem within (a lo hi : Int) (w : World) : Calls Try.prog 22 #[.int .i64 a, .int .i64 lo, .int .i64 hi] w fun e w' => e = .returned (.bool (decide (lo ≤ a ∧ a ≤ hi))) ∧ w = w' := by
  by_cases h1 : lo ≤ a
  · by_cases h2 : a ≤ hi
    · go_enter Try.func22, Try.ntmps22
      go_wp2
      go_ret
      exact ⟨by simp [h1, h2], rfl⟩
    · go_enter Try.func22, Try.ntmps22
      go_wp2
      go_ret
      exact ⟨by simp [h2], rfl⟩
  · have h1 : a < lo := by omega
    go_enter Try.func22, Try.ntmps22
    go_wp2
    go_ret
    exact ⟨by simp; omega, rfl⟩

/-- The error of an owner and of numbers. -/
def checkS (owner : Int) (xs : List Int) : Int := if 1 ≤ owner ∧ owner ≤ 40 then (if ∀ x ∈ xs, 0 ≤ x ∧ x ≤ 10000000 then 0 else 2) else 2

theorem rd_mem (xs : List Int) (k : Nat) (h : k < xs.length) : rd xs k ∈ xs := by
  rw [rd, Int.toNat_natCast, List.getD_eq_getElem?_getD, List.getElem?_eq_getElem h]
  exact List.getElem_mem _
theorem nth_bad (xs : List Int) (h : ¬ ∀ x ∈ xs, 0 ≤ x ∧ x ≤ 10000000) : ∃ j, j < xs.length ∧ ¬ (0 ≤ rd xs j ∧ rd xs j ≤ 10000000) ∧ ∀ i, i < j → (0 ≤ rd xs i ∧ rd xs i ≤ 10000000) := by
  induction xs with
  | nil => exact absurd (fun x hx => by simp at hx) h
  | cons y ys ih =>
    by_cases hy : 0 ≤ y ∧ y ≤ 10000000
    · have : ¬ ∀ x ∈ ys, 0 ≤ x ∧ x ≤ 10000000 := fun hh => h (fun x hx => by
        rcases List.mem_cons.1 hx with rfl | hx
        · exact hy
        · exact hh x hx)
      obtain ⟨j, h1, h2, h3⟩ := ih this
      refine ⟨j + 1, by simpa using h1, by simpa [rd] using h2, fun i hi => ?_⟩
      cases i with
      | zero => simpa [rd] using hy
      | succ i => simpa [rd] using h3 i (by omega)
    · exact ⟨0, by simp, by simpa [rd] using hy, fun i hi => by omega⟩

set_option maxHeartbeats 1000000 in
set_option maxRecDepth 100000 in
theorem check (owner : Int) (A : Option Addr) (n c : Nat) (xs : List Int) (w : World) (hr : ReadsInt w .i64 A n xs) :
    Calls Try.prog 23 #[.int .i64 owner, .slice A n c] w fun e w' => e = .returned (.int .i64 (checkS owner xs)) ∧ w = w' := by
  have hmax := hr.2.1
  by_cases ho : 1 ≤ owner ∧ owner ≤ 40
  · have hd : decide (1 ≤ owner ∧ owner ≤ 40) = true := decide_eq_true ho
    have hlen := hr.1
    by_cases hx : ∀ x ∈ xs, 0 ≤ x ∧ x ≤ 10000000
    · have hS : checkS owner xs = 0 := by unfold checkS; rw [if_pos ho, if_pos hx]
      rw [hS]
      have HX := Lib.hid hx
      have HL := Lib.hid hlen
      clear hx hlen hS
      go_enter Try.func23, Try.ntmps23
      go_wp2_with (first | (go_at_call 22; refine (within _ _ _ _).mono ?_; rintro e w' ⟨rfl, rfl⟩; rw [hd]))
      go_loop [6, 12] (fun _ i => ∃ k : Nat, k ≤ n ∧ i = .int .i64 k) (fun _ i => n - (intOf i).toNat)
      case atStart => exact ⟨0, Nat.zero_le _, rfl⟩
      case round =>
        obtain ⟨k, hk, rfl⟩ := hrel
        by_cases hlt : k < n
        · obtain ⟨ad, rfl, hc⟩ := hr.at_ k (by omega) (by omega)
          rw [Int.toNat_natCast] at hc
          have hv := HX.out (rd xs k) (rd_mem xs k (by rw [HL.out]; exact hlt))
          have hd2 : decide (0 ≤ rd xs k ∧ rd xs k ≤ 10000000) = true := decide_eq_true hv
          go_wp2_with (first | (go_at_call 22; refine (within _ _ _ _).mono ?_; rintro e w' ⟨rfl, rfl⟩; rw [hd2]))
          go_round
          case rel => exact ⟨k + 1, by omega, by go_num⟩
          case measure => simp [intOf]; omega
        · have hk2 : n ≤ k := by omega
          go_wp2
          go_ret
          exact ⟨rfl, rfl⟩
    · have hS : checkS owner xs = 2 := by unfold checkS; rw [if_pos ho, if_neg hx]
      rw [hS]
      obtain ⟨j, hj, hbad, hgood⟩ := nth_bad xs hx
      rw [hlen] at hj
      have HG := Lib.hid hgood
      have HBad := Lib.hid hbad
      have HL := Lib.hid hlen
      clear hx hgood hbad hS hlen
      go_enter Try.func23, Try.ntmps23
      go_wp2_with (first | (go_at_call 22; refine (within _ _ _ _).mono ?_; rintro e w' ⟨rfl, rfl⟩; rw [hd]))
      go_loop [6, 12] (fun _ i => ∃ k : Nat, k ≤ j ∧ i = .int .i64 k) (fun _ i => n - (intOf i).toNat)
      case atStart => exact ⟨0, Nat.zero_le _, rfl⟩
      case round =>
        obtain ⟨k, hk, rfl⟩ := hrel
        obtain ⟨ad, rfl, hc⟩ := hr.at_ k (by omega) (by omega)
        rw [Int.toNat_natCast] at hc
        by_cases hlt : k < j
        · have hv := HG.out k hlt
          have hd2 : decide (0 ≤ rd xs k ∧ rd xs k ≤ 10000000) = true := decide_eq_true hv
          have hlt2 : k < n := by omega
          go_wp2_with (first | (go_at_call 22; refine (within _ _ _ _).mono ?_; rintro e w' ⟨rfl, rfl⟩; rw [hd2]))
          go_round
          case rel => exact ⟨k + 1, by omega, by go_num⟩
          case measure => simp [intOf]; omega
        · obtain rfl : k = j := by omega
          have hd2 : decide (0 ≤ rd xs k ∧ rd xs k ≤ 10000000) = false := decide_eq_false HBad.out
          go_wp2_with (first | (go_at_call 22; refine (within _ _ _ _).mono ?_; rintro e w' ⟨rfl, rfl⟩; rw [hd2]))
          go_ret
          exact ⟨rfl, rfl⟩
  · have hd : decide (1 ≤ owner ∧ owner ≤ 40) = false := decide_eq_false ho
    have hS : checkS owner xs = 2 := by unfold checkS; rw [if_neg ho]
    rw [hS]
    clear hS
    go_enter Try.func23, Try.ntmps23
    go_wp2_with (first | (go_at_call 22; refine (within _ _ _ _).mono ?_; rintro e w' ⟨rfl, rfl⟩; rw [hd]))
    go_ret
    exact ⟨rfl, rfl⟩

theorem zeroPtr (w : World) : (zeroValue 62).run Try.prog w = .ok (.pointer none) w := by kernel_rfl

set_option maxRecDepth 100000 in
theorem account_bad (p : Nat) (owner : Int) (A : Option Addr) (n c : Nat) (xs : List Int) (w : World) (hr : ReadsInt w .i64 A n xs) (hs : checkS owner xs ≠ 0) :
    Calls Try.prog 39 #[.pointer (some ⟨p, 0, none⟩), .int .i64 owner, .slice A n c] w fun e w' => e = .returned (.tuple #[.pointer none, .int .i64 (checkS owner xs)]) ∧ w = w' := by
  have hd : (checkS owner xs != 0) = true := by simp [hs]
  have HR := Aside0.mk hr
  clear hr
  go_enter Try.func39, Try.ntmps39
  go_wp2_with (first | (go_at_call 23; refine (check _ _ _ _ xs _ HR.out).mono ?_; rintro e w' ⟨rfl, rfl⟩))
  go_ret2
  exact ⟨rfl, rfl⟩

set_option maxRecDepth 100000 in
theorem account_none {p : Nat} {b : BookS} {q : Parts} {w : World} (hB : BookAt w p b q) (owner : Int) (A : Option Addr) (n c : Nat) (xs : List Int) (hr : ReadsInt w .i64 A n xs) (hs : checkS owner xs = 0) (hm : mget (q.M b) owner = none) :
    Calls Try.prog 39 #[.pointer (some ⟨p, 0, none⟩), .int .i64 owner, .slice A n c] w fun e w' => e = .returned (.tuple #[.pointer none, .int .i64 7]) ∧ w = w' := by
  have HR := Aside0.mk hr
  have HB := Aside0.mk hB
  have HS := Aside0.mk hs
  have HM := Aside0.mk hm
  have hc4 : w.cell? ⟨p, 4, none⟩ = some (.map (some q.mb)) := by rw [blk_cell hB.head]; rfl
  clear hr hB hs hm
  go_enter Try.func39, Try.ntmps39
  go_wp2_with (first | (go_at_call 23; refine (check _ _ _ _ xs _ HR.out).mono ?_; rintro e w' ⟨rfl, rfl⟩; rw [HS.out]) | (at_lookup; refine wp_lookup_none _ rfl (.tmp 19) (.tmp 20) 56 false rfl 3 62 Try.underlying56 Try.underlying3 q.mb (q.M b) rfl HB.out.map owner rfl HM.out _ (zeroPtr _) ?_))
  go_ret2
  exact ⟨rfl, rfl⟩

set_option maxRecDepth 100000 in
theorem account_some {p : Nat} {b : BookS} {q : Parts} {w : World} (hB : BookAt w p b q) (owner : Int) (A : Option Addr) (n c : Nat) (xs : List Int) (hr : ReadsInt w .i64 A n xs) (hs : checkS owner xs = 0) (ad : Addr) (hm : mget (q.M b) owner = some (.pointer (some ad))) :
    Calls Try.prog 39 #[.pointer (some ⟨p, 0, none⟩), .int .i64 owner, .slice A n c] w fun e w' => e = .returned (.tuple #[.pointer (some ad), .int .i64 0]) ∧ w = w' := by
  have HR := Aside0.mk hr
  have HB := Aside0.mk hB
  have HS := Aside0.mk hs
  have HM := Aside0.mk hm
  have hc4 : w.cell? ⟨p, 4, none⟩ = some (.map (some q.mb)) := by rw [blk_cell hB.head]; rfl
  clear hr hB hs hm
  go_enter Try.func39, Try.ntmps39
  go_wp2_with (first | (go_at_call 23; refine (check _ _ _ _ xs _ HR.out).mono ?_; rintro e w' ⟨rfl, rfl⟩; rw [HS.out]) | (at_lookup; refine wp_lookup_some _ rfl (.tmp 19) (.tmp 20) 56 false rfl 3 62 Try.underlying56 Try.underlying3 q.mb (q.M b) rfl HB.out.map owner rfl _ HM.out ?_))
  go_ret2
  exact ⟨rfl, rfl⟩

/-- Whether an owner has an account, and which. -/
def BookS.acc (b : BookS) (owner : Int) : Option Acc := (b.accs.find? fun x => x.1 == owner).map (·.2)

theorem M_get {w : World} {p : Nat} {b : BookS} {q : Parts} (hB : BookAt w p b q) (owner : Int) :
    (b.acc owner = none ∧ mget (q.M b) owner = none) ∨ ∃ a g, b.acc owner = some a ∧ mget (q.M b) owner = some (.pointer (some ⟨g, 0, none⟩)) ∧ g ∈ q.gs ∧ w.heap[g]? = some (accCells a) := by
  have hl := hB.len
  have hb := hB.boxes
  unfold BookS.acc Parts.M
  generalize b.accs = l at *
  generalize q.gs = gs at *
  induction l generalizing gs with
  | nil => exact .inl ⟨rfl, rfl⟩
  | cons a l ih =>
    cases gs with
    | nil => simp at hl
    | cons g gs =>
      obtain ⟨a', ha', hg⟩ := hb 0 g rfl
      obtain rfl : a = a' := by simpa using ha'
      by_cases h : owner = a.1
      · refine .inr ⟨a.2, g, ?_, ?_, by simp, hg⟩
        · simp [h]
        · simp [mget, h]
      · have h' : ¬ a.1 = owner := fun e => h e.symm
        rcases ih gs (by simpa using hl) (fun i k hk => hb (i + 1) k (by simpa using hk)) with ⟨h1, h2⟩ | ⟨c, g', h1, h2, h3, h4⟩
        · refine .inl ⟨?_, ?_⟩
          · simpa [h'] using h1
          · simpa [mget, h] using h2
        · refine .inr ⟨c, g', ?_, ?_, by simp [h3], h4⟩
          · simpa [h'] using h1
          · simpa [mget, h] using h2

/-- What Held returns. -/
def heldS (b : BookS) (owner : Int) : Int × Int :=
  if 1 ≤ owner ∧ owner ≤ 40 then (match b.acc owner with | none => (0, 7) | some a => (a.held, 0)) else (0, 2)

set_option maxHeartbeats 1000000 in
set_option maxRecDepth 100000 in
theorem held {p : Nat} {b : BookS} {q : Parts} {w : World} (hB : BookAt w p b q) (owner : Int) :
    Calls Try.prog 20 #[.pointer (some ⟨p, 0, none⟩), .int .i64 owner] w fun e w' => e = .returned (.tuple #[.int .i64 (heldS b owner).1, .int .i64 (heldS b owner).2]) ∧ w = w' := by
  have hnil : ReadsInt w .i64 none 0 [] := ReadsInt.nil _ _
  by_cases ho : 1 ≤ owner ∧ owner ≤ 40
  · have hs : checkS owner [] = 0 := by unfold checkS; rw [if_pos ho, if_pos (fun x hx => by simp at hx)]
    rcases M_get hB owner with ⟨h1, h2⟩ | ⟨a, g, h1, h2, h3, h4⟩
    · have hr : heldS b owner = (0, 7) := by unfold heldS; rw [if_pos ho, h1]
      rw [hr]
      have HH := Aside0.mk (account_none hB owner none 0 0 [] hnil hs h2)
      clear hr h1 h2 hs hB
      go_enter Try.func20, Try.ntmps20
      go_wp2_with (first | (go_at_call 39; refine HH.out.mono ?_; rintro e w' ⟨rfl, rfl⟩))
      go_ret2
      exact ⟨rfl, rfl⟩
    · have hr : heldS b owner = (a.held, 0) := by unfold heldS; rw [if_pos ho, h1]
      rw [hr]
      have HH := Aside0.mk (account_some hB owner none 0 0 [] hnil hs _ h2)
      have hc1 : w.cell? ⟨g, 1, none⟩ = some (.int .i64 a.held) := by rw [blk_cell h4]; rfl
      clear hr h1 h2 hs hB
      go_enter Try.func20, Try.ntmps20
      go_wp2_with (first | (go_at_call 39; refine HH.out.mono ?_; rintro e w' ⟨rfl, rfl⟩))
      go_ret2
      exact ⟨rfl, rfl⟩
  · have hs : checkS owner [] = 2 := by unfold checkS; rw [if_neg ho]
    have hr : heldS b owner = (0, 2) := by unfold heldS; rw [if_neg ho]
    rw [hr]
    have HH := Aside0.mk (account_bad p owner none 0 0 [] w hnil (by rw [hs]; decide))
    rw [hs] at HH
    clear hr hs hB
    go_enter Try.func20, Try.ntmps20
    go_wp2_with (first | (go_at_call 39; refine HH.out.mono ?_; rintro e w' ⟨rfl, rfl⟩))
    go_ret2
    exact ⟨rfl, rfl⟩

/-! ### which blocks are apart; a book whose blocks are as they were -/
theorem own_lt' {w : World} {e : TypeId} {size n : Nat} {v : Value} {xs : List Value} (h : w.ownsRow 0 e size v n xs) {k : Nat} (hk : some k = v.ownBlock) : k < w.heap.size := own_lt h k hk.symm
theorem own_not_map {w : World} {e : TypeId} {size n r : Nat} {v : Value} {xs : List Value} {l : List (Int × Value)} (h : w.ownsRow 0 e size v n xs) (hm : IntMap w r l) : some r ≠ v.ownBlock := fun hk => by
  obtain ⟨cur, hc⟩ := own_typed h r hk.symm
  obtain ⟨es, c, hb, _⟩ := hm
  rw [hb] at hc
  cases hc
theorem own_not {w : World} {e t : TypeId} {size n r : Nat} {v : Value} {xs : List Value} {cs : Array Value} (h : w.ownsRow 0 e size v n xs) (hb : w.heap[r]? = some (.cells cs t)) (hne : e ≠ t) : some r ≠ v.ownBlock := fun hk => by
  obtain ⟨cur, hc⟩ := own_typed h r hk.symm
  rw [hb] at hc
  injection hc with hc
  injection hc with _ h2 _
  exact hne h2.symm
theorem own_apart {w : World} {e t : TypeId} {size n size' n' : Nat} {v v' : Value} {xs xs' : List Value} (h : w.ownsRow 0 e size v n xs) (h' : w.ownsRow 0 t size' v' n' xs') (hne : e ≠ t) {k : Nat} (hk : some k = v.ownBlock) : some k ≠ v'.ownBlock := by
  obtain ⟨cur, hc⟩ := own_typed h k hk.symm
  intro hk'
  obtain ⟨cur', hc'⟩ := own_typed h' k hk'.symm
  rw [hc] at hc'
  injection hc' with hc'
  injection hc' with _ h2 _
  exact hne h2

section
variable {w w' : World} {p : Nat} {b : BookS} {q : Parts}
theorem BookAt.mb_ne (h : BookAt w p b q) : q.mb ≠ p := fun e => by
  obtain ⟨es, c, hb, _⟩ := h.map
  rw [e, h.head] at hb
  cases hb
theorem BookAt.box_of (h : BookAt w p b q) {g : Nat} (hg : g ∈ q.gs) : ∃ a : Acc, w.heap[g]? = some (accCells a) := by
  obtain ⟨i, hi, rfl⟩ := List.mem_iff_getElem.1 hg
  obtain ⟨a, _, ha⟩ := h.boxes i _ (List.getElem?_eq_getElem hi)
  exact ⟨a.2, ha⟩
theorem BookAt.box_ne (h : BookAt w p b q) {g : Nat} (hg : g ∈ q.gs) : g ≠ p ∧ g ≠ q.mb ∧ some g ≠ q.lv.ownBlock ∧ some g ≠ q.ev.ownBlock := by
  obtain ⟨a, ha⟩ := h.box_of hg
  refine ⟨fun e => ?_, fun e => ?_, own_not h.leases ha (by decide), own_not h.entries ha (by decide)⟩
  · rw [e, h.head] at ha
    unfold accCells at ha
    injection ha with ha
    injection ha with _ h2 _
    exact absurd h2 (by decide)
  · obtain ⟨es, c, hb, _⟩ := h.map
    rw [e, hb] at ha
    cases ha
theorem BookAt.lt (h : BookAt w p b q) {k : Nat} (hk : q.Foot p k) : k < w.heap.size := by
  rcases hk with rfl | rfl | hk | hk | hk
  · exact blk_lt h.head
  · exact h.map.lt
  · obtain ⟨a, ha⟩ := h.box_of hk
    exact blk_lt ha
  · exact own_lt' h.leases hk
  · exact own_lt' h.entries hk
theorem own_frame {e : TypeId} {size n : Nat} {v : Value} {xs : List Value} (h : w.ownsRow 0 e size v n xs) (hh : ∀ k, some k = v.ownBlock → w'.heap[k]? = w.heap[k]?) : w'.ownsRow 0 e size v n xs := own_move h (fun k hk => hh k hk.symm)
theorem BookAt.frame (h : BookAt w p b q) (hh : ∀ k, q.Foot p k → w'.heap[k]? = w.heap[k]?) : BookAt w' p b q where
  head := (hh p (.inl rfl)).trans h.head
  map := h.map.of_heap (hh q.mb (.inr (.inl rfl)))
  len := h.len
  nodup := h.nodup
  boxes := fun i g hg => by
    obtain ⟨a, ha, hb⟩ := h.boxes i g hg
    exact ⟨a, ha, (hh g (.inr (.inr (.inl (List.mem_of_getElem? hg))))).trans hb⟩
  leases := own_frame h.leases (fun k hk => hh k (.inr (.inr (.inr (.inl hk)))))
  entries := own_frame h.entries (fun k hk => hh k (.inr (.inr (.inr (.inr hk)))))
  few := h.few
  fewL := h.fewL
  plain := h.plain
end

/-! ### NewBook, Open -/
theorem newBook_cells (budget : Int) (w : World) : BookAt ((w.alloc (.map #[] 0)).alloc (.cells #[.int .i64 budget, .int .i64 0, .int .i64 0, .int .i64 0, .map (some w.heap.size), .slice none 0 0, .slice none 0 0] 60)) (w.heap.size + 1) ⟨budget, 0, 0, 0, [], [], []⟩ ⟨w.heap.size, [], .slice none 0 0, .slice none 0 0⟩ where
  head := two_new w _ _
  map := (IntMap.made w).of_heap (Below.heap_alloc _ _ _ (by rw [alloc_size]; omega))
  len := rfl
  nodup := List.nodup_nil
  boxes := fun i g hg => by simp at hg
  leases := own_nil _ _ _ _
  entries := own_nil _ _ _ _
  few := Nat.zero_le _
  fewL := Nat.zero_le _
  plain := fun e he => by simp at he

set_option maxRecDepth 100000 in
theorem newBook (budget : Int) (w : World) (hb : 0 ≤ budget ∧ budget ≤ 10000000) :
    Calls Try.prog 5 #[.int .i64 budget] w fun e w' => e = .returned (.tuple #[.pointer (some ⟨w.heap.size + 1, 0, none⟩), .int .i64 0]) ∧
      BookAt w' (w.heap.size + 1) ⟨budget, 0, 0, 0, [], [], []⟩ ⟨w.heap.size, [], .slice none 0 0, .slice none 0 0⟩ ∧ Below w.heap.size w w' := by
  have hd : decide (0 ≤ budget ∧ budget ≤ 10000000) = true := decide_eq_true hb
  have hmm := @run_makeMap Try.prog
  go_enter Try.func5, Try.ntmps5
  go_wp2_with (first | (go_at_call 22; refine (within _ _ _ _).mono ?_; rintro e w' ⟨rfl, rfl⟩; rw [hd]))
  go_ret2
  exact ⟨rfl, newBook_cells budget w, below_alloc (below_alloc (Below.refl _ _) _) _⟩

/-- A new account: the book's parts behind it. -/
theorem open_done {w W1 W2 W3 : World} {p g : Nat} {b : BookS} {q : Parts} {owner limit : Int} {ev' : Value} {e : List Value}
    (hB : BookAt w p b q) (he : e.length = 6 ∧ ∀ u ∈ e, u.oneCell' = true) (hnone : mget (q.M b) owner = none) (hsz : w.heap.size ≤ g) (hW1 : Below w.heap.size w W1) (hg : W1.heap[g]? = some (accCells ⟨limit, 0, 0⟩))
    (h2m : IntMap W2 q.mb (mput (q.M b) owner (.pointer (some ⟨g, 0, none⟩)))) (h2 : W1.grownBy W2 (some q.mb)) (hn : b.entries.length < 10000)
    (h3h : W3.heap[p]? = some (.cells #[.int .i64 b.budget, .int .i64 b.total, .int .i64 b.time, .int .i64 b.last, .map (some q.mb), q.lv, ev'] 60))
    (h3o : W3.ownsRow 0 67 6 ev' (b.entries.length + 1) (flat b.entries ++ e))
    (h3k : Upd (fun k => k = p ∨ some k = q.ev.ownBlock) W2 W3) (h3e : ∀ k, some k = ev'.ownBlock → some k = q.ev.ownBlock ∨ W2.heap.size ≤ k) :
    BookAt W3 p { b with accs := b.accs ++ [(owner, ⟨limit, 0, 0⟩)], entries := b.entries ++ [e] } ⟨q.mb, q.gs ++ [g], q.lv, ev'⟩ ∧
      Upd (q.Foot p) w W3 ∧ (∀ k, Parts.Foot p ⟨q.mb, q.gs ++ [g], q.lv, ev'⟩ k → q.Foot p k ∨ w.heap.size ≤ k) := by
  have hg1 : g < W1.heap.size := blk_lt hg
  have h1 := hW1.block
  have hs2 := h2.size
  have hp : p < w.heap.size := blk_lt hB.head
  have hmb : q.mb < w.heap.size := hB.map.lt
  have far : ∀ k, k < W1.heap.size → k ≠ q.mb → k ≠ p → some k ≠ q.ev.ownBlock → W3.heap[k]? = W1.heap[k]? := fun k hk a1 a2 a3 => by
    rw [h3k.block k (by omega) (fun h => h.elim a2 a3), h2.block k hk (by simpa using a1)]
  have h1s : w.heap.size ≤ W1.heap.size := hW1.size
  have hgp : g ≠ p := by omega
  have hgmb : g ≠ q.mb := by omega
  have hgev : some g ≠ q.ev.ownBlock := fun h => by have := own_lt' hB.entries h; omega
  refine ⟨⟨h3h, ?_, ?_, ?_, ?_, ?_, ?_, ?_, hB.fewL, ?_⟩, ?_, ?_⟩
  · have hm : Parts.M ⟨q.mb, q.gs ++ [g], q.lv, ev'⟩ { b with accs := b.accs ++ [(owner, ⟨limit, 0, 0⟩)], entries := b.entries ++ [e] } = mput (q.M b) owner (.pointer (some ⟨g, 0, none⟩)) := by
      rw [mput_new _ _ _ hnone]
      unfold Parts.M
      simp only
      rw [List.zip_append hB.len.symm]
      simp
    rw [hm]
    exact h2m.of_heap (h3k.block q.mb (by omega) (fun h => h.elim hB.mb_ne (own_not_map hB.entries hB.map)))
  · simp [hB.len]
  · rw [List.nodup_append]
    refine ⟨hB.nodup, by simp, fun a ha c hc => ?_⟩
    have : c = g := by simpa using hc
    subst this
    obtain ⟨x, hx⟩ := hB.box_of ha
    have := blk_lt hx
    omega
  · intro i k hk
    by_cases hi : i < q.gs.length
    · rw [List.getElem?_append_left hi] at hk
      obtain ⟨a, ha, hb⟩ := hB.boxes i k hk
      have hmem : k ∈ q.gs := List.mem_of_getElem? hk
      obtain ⟨n1, n2, n3, n4⟩ := hB.box_ne hmem
      have hkl := blk_lt hb
      refine ⟨a, ?_, ?_⟩
      · rw [List.getElem?_append_left (by rw [← hB.len]; exact hi)]; exact ha
      · rw [far k (by omega) n2 n1 n4, h1 k hkl]; exact hb
    · rw [List.getElem?_append_right (by omega)] at hk
      have h0 : i - q.gs.length = 0 := by
        by_cases h : i - q.gs.length = 0
        · exact h
        · rw [List.getElem?_eq_none (by simp; omega)] at hk; cases hk
      rw [h0] at hk
      have : k = g := by simpa using hk.symm
      subst this
      refine ⟨(owner, ⟨limit, 0, 0⟩), ?_, ?_⟩
      · rw [List.getElem?_append_right (by rw [← hB.len]; omega), ← hB.len, h0]; rfl
      · rw [far k hg1 hgmb hgp hgev]; exact hg
  · refine own_frame hB.leases (fun k hk => ?_)
    have hkl := own_lt' hB.leases hk
    rw [far k (by omega) (fun h => own_not_map hB.leases hB.map (h ▸ hk)) (fun h => own_not hB.leases hB.head (by decide) (h ▸ hk)) (own_apart hB.leases hB.entries (by decide) hk), h1 k hkl]
  · have : flat (b.entries ++ [e]) = flat b.entries ++ e := by simp [flat]
    rw [this]
    simpa using h3o
  · simp; omega
  · intro x hx
    rcases List.mem_append.1 hx with hx | hx
    · exact hB.plain x hx
    · obtain rfl := List.mem_singleton.1 hx
      exact he
  · refine ((Upd.of_below hW1).then (Upd.of_grown (S := fun k => k = q.mb) h2 (fun k hk => by simpa using hk)) (fun k hk => .inl (.inr (.inl hk)))).then h3k (fun k hk => .inl ?_)
    rcases hk with h | h
    · exact .inl h
    · exact .inr (.inr (.inr (.inr h)))
  · intro k hk
    rcases hk with h | h | h | h | h
    · exact .inl (.inl h)
    · exact .inl (.inr (.inl h))
    · rcases List.mem_append.1 h with h | h
      · exact .inl (.inr (.inr (.inl h)))
      · have : k = g := by simpa using h
        exact .inr (by omega)
    · exact .inl (.inr (.inr (.inr (.inl h))))
    · rcases h3e k h with h | h
      · exact .inl (.inr (.inr (.inr (.inr h))))
      · exact .inr (by omega)

set_option maxHeartbeats 1000000 in
set_option maxRecDepth 100000 in
theorem open_ok {p : Nat} {b : BookS} {q : Parts} {w : World} (hB : BookAt w p b q) (owner limit : Int) (hs : checkS owner [limit] = 0) (hno : b.acc owner = none) (hn : b.entries.length < 10000) :
    Calls Try.prog 6 #[.pointer (some ⟨p, 0, none⟩), .int .i64 owner, .int .i64 limit] w fun e w' => e = .returned (.int .i64 0) ∧
      ∃ q', BookAt w' p { b with accs := b.accs ++ [(owner, ⟨limit, 0, 0⟩)], entries := b.entries ++ [[.int .i64 1, .int .i64 owner, .int .i64 0, .int .i64 limit, .int .i64 0, .int .i64 0]] } q' ∧
      Upd (q.Foot p) w w' ∧ (∀ k, q'.Foot p k → q.Foot p k ∨ w.heap.size ≤ k) := by
  have hm : mget (q.M b) owner = none := by
    rcases M_get hB owner with ⟨_, h⟩ | ⟨a, g, h, _⟩
    · exact h
    · rw [hno] at h; cases h
  have hr : ReadsInt (w.alloc (.cells #[.int .i64 limit] 3)) .i64 (some ⟨w.heap.size, 0, none⟩) 1 [limit] := own_reads' (own_lit w 0 3 .i64 [limit] (Nat.zero_le _) (by simp))
  have HB := Aside0.mk hB
  have HS := Aside0.mk hs
  have HM := Aside0.mk hm
  have HR := Aside0.mk hr
  have HN := Aside0.mk hn
  have hpl := blk_lt hB.head
  have hc4 : (w.alloc (.cells #[.int .i64 limit] 3)).cell? ⟨p, 4, none⟩ = some (.map (some q.mb)) := by rw [blk_cell (blk_alloc hB.head _)]; rfl
  clear hr hB hs hm hno hn
  go_enter Try.func6, Try.ntmps6
  go_wp2_with (first | (go_at_call 23; refine (check _ _ _ _ [limit] _ HR.out).mono ?_; rintro e w' ⟨rfl, rfl⟩; rw [HS.out]) | (at_lookup; refine wp_lookup_none _ rfl (.tmp 18) (.tmp 19) 56 false rfl 3 62 Try.underlying56 Try.underlying3 q.mb (q.M b) rfl (HB.out.map.of_heap (Below.heap_alloc _ _ _ HB.out.map.lt)) owner rfl HM.out _ (zeroPtr _) ?_) | (at_mapUpdate; refine wp_update _ rfl (.tmp 25) (.tmp 26) (.tmp 29) 56 rfl 3 62 Try.underlying56 Try.underlying3 q.mb (q.M b) rfl (HB.out.map.of_heap (two_old w _ _ _ HB.out.map.lt)) owner rfl (.pointer (some ⟨w.heap.size + 1, 0, none⟩)) rfl ?_; intro w2 hm2 hg2 _; have HM2 := Aside0.mk hm2; have HG2 := Aside0.mk hg2; clear hm2 hg2))
  have hb2 := blk_grown ((two_old w (.cells #[.int .i64 limit] 3) (accCells ⟨limit, 0, 0⟩) p hpl).trans HB.out.head) HG2.out (by simpa using HB.out.mb_ne.symm)
  have ho2 : w2.ownsRow 0 67 6 q.ev b.entries.length (flat b.entries) := own_frame HB.out.entries (fun k hk => by
    have hkl := own_lt' HB.out.entries hk
    rw [HG2.out.block k (Nat.lt_of_lt_of_le hkl (two_size w _ _)) (by have := own_not_map HB.out.entries HB.out.map; intro e; exact this (e.symm.trans hk ▸ rfl))]
    exact two_old w _ _ k hkl)
  go_wp2_with (first | (go_at_call 24; refine (note_low p _ _ _ _ _ _ q.ev b.entries.length (flat b.entries) 1 owner 0 limit 0 0 w2 HN.out hb2 ho2).mono ?_; rintro e w3 ⟨rfl, ev', n1, n2, n3, n4⟩; have HD := Aside0.mk (open_done HB.out (by simp [Value.oneCell']) HM.out (Nat.le_succ _) (below_alloc (below_alloc (Below.refl _ _) _) _) (two_new w _ _) HM2.out HG2.out HN.out n1 n2 n3 n4); clear n1 n2 n3 n4))
  go_ret
  exact ⟨rfl, _, HD.out⟩
end Go.Proofs.Yticbjaclnneaoaa.Book
