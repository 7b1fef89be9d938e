/- Ropes without leaves: NewRope, and Join of two of them. -/
import Derived.Test.YtancgipidbojkaaMadeRope
import Derived.Test.YtancgipidbojkaaWEqStruct
import Derived.LaidEqlPtr
import Derived.Lib.Builder
namespace Go.Proofs.Ytancgipidbojkaa.RopeJoin
open Go.RowKit Go.Proofs.YtancgipidbojkaaW.PrintWords Go.Proofs.YtancgipidbojkaaW.PrintLast Go.Proofs.YtancgipidbojkaaW.PrintMore Go.Proofs.Ytancgipidbojkaa.Book Go.Proofs.Ytancgipidbojkaa.Policy Go.Proofs.Ytancgipidbojkaa.Made

theorem eqPolicy (d : Nat) (w : World) (x0 y0 x1 y1 x2 y2 : Int) :
    (Op.equalIn (d + 2) 48 (.agg #[.int .i64 x0, .int .i64 x1, .int .i64 x2]) (.agg #[.int .i64 y0, .int .i64 y1, .int .i64 y2])).run Try.prog w = .ok (x0 == y0 && (x1 == y1 && (x2 == y2))) w := by
  refine eqA_of Try.underlying48 (by kernel_rfl) ?_
  refine eqf_cons (by rfl) (by go_simp; rfl) (by go_simp; rfl) (by go_simp) ?_
  refine eqf_cons (by rfl) (by go_simp; rfl) (by go_simp; rfl) (by go_simp) ?_
  exact eqf_last (by rfl) (by go_simp; rfl) (by go_simp; rfl) (by go_simp)
attribute [local go_sem high] eqPolicy

def ropeCells (p : Nat) (o k s m leaf : Int) : Obj := .cells #[.pointer (some ⟨p, 0, none⟩), .int .i64 o, .int .i64 k, .int .i64 s, .int .i64 m, .int .i64 leaf, .bool false, .slice none 0 0, .slice none 0 0] 91

set_option maxHeartbeats 2000000 in
set_option maxRecDepth 100000 in
theorem ropeNew {p : Nat} {b : BookS} {q : Parts} {w : World} (hB : BookAt w p b q) (owner k s m leaf : Int) (hf : fault k s m = 0) (hl : 1 ≤ leaf ∧ leaf ≤ 4096) (hm : leaf ≤ m) (hh : (heldS b owner).2 = 0) :
    Calls Try.prog 36 #[.pointer (some ⟨p, 0, none⟩), .int .i64 owner, .agg #[.int .i64 k, .int .i64 s, .int .i64 m], .int .i64 leaf] w fun e w' =>
      ∃ g, e = .returned (.tuple #[.pointer (some ⟨g, 0, none⟩), .int .i64 0]) ∧ w'.heap[g]? = some (ropeCells p owner k s m leaf) ∧ w.heap.size ≤ g ∧ Below w.heap.size w w' := by
  have HB := Aside0.mk hB
  clear hB
  have hbox : (w.alloc (.cells #[.int .i64 k, .int .i64 s, .int .i64 m] 48)).heap[w.heap.size]? = some (.cells #[.int .i64 k, .int .i64 s, .int .i64 m] 48) := blk_new w _
  have HX := Aside0.mk hbox
  clear hbox
  have hd : decide (1 ≤ leaf ∧ leaf ≤ 4096) = true := decide_eq_true hl
  have hne : ((heldS b owner).2 != 0) = false := by simp [hh]
  go_enter Try.func36, Try.ntmps36
  go_wp2_with (first | (go_at_call 65; refine (checkPolicy _ _ _ _).mono ?_; rintro e w1 ⟨rfl, h1⟩; rw [hf]; obtain ⟨_, hb0, hb1, hb2⟩ := boxed h1 HX.out; have H1 := Aside0.mk h1; clear h1) | (go_at_call 67; refine (withinRope _ _ _ _).mono ?_; rintro e w' ⟨rfl, rfl⟩) | (go_at_call 66; refine (held (HB.out.frame (fun k hk => by rw [H1.out.block k (by rw [alloc_size]; have := HB.out.lt hk; omega), Below.heap_alloc _ _ k (HB.out.lt hk)])) owner).mono ?_; rintro e w2 ⟨rfl, rfl⟩))
  go_ret2
  refine ⟨_, rfl, blk_new _ _, ?_, below_alloc (below_then (below_alloc (Below.refl _ _) _) (by simp) H1.out) _⟩
  have := H1.out.size
  rw [alloc_size] at this
  omega

theorem run_neq_other {P : Program} (w : World) {tp te : TypeId} {j : TypeInfo} {a b : Addr} {ca cb : Array Value} {ta tb : TypeId} (hp : P.underlying tp = some (.pointer te)) (hte : P.info? te = some j) (hsz : j.size ≠ 0)
    (hne : a ≠ b) (ha : w.heap[a.block]? = some (.cells ca ta (0, 0))) (hb : w.heap[b.block]? = some (.cells cb tb (0, 0))) :
    (binOp .neq tp (.pointer (some a)) (.pointer (some b))).run P w = .ok (.bool true) w := by
  have h : ∀ d : Nat, (Op.equalIn (d + 1) tp (.pointer (some a)) (.pointer (some b))).run P w = .ok false w := fun d => by
    simp [Op.equalIn, run_underlying hp, sizeOf, typeInfo, hte, hsz, run_sameAddr_other w hne ha hb]
  simp only [binOp]
  simp [Op.equal, Op.maxDepth, h 9999]
theorem sizeRope : (Try.prog.info? 91).map (fun i => i.size) = some 9 := by kernel_rfl
theorem sizeBook : (Try.prog.info? 119).map (fun i => i.size) = some 7 := by kernel_rfl
theorem infoRope : ∃ j, Try.prog.info? 91 = some j ∧ j.size ≠ 0 := by
  obtain ⟨j, h1, h2⟩ := Option.map_eq_some_iff.1 sizeRope
  exact ⟨j, h1, by omega⟩
theorem infoBook : ∃ j, Try.prog.info? 119 = some j ∧ j.size ≠ 0 := by
  obtain ⟨j, h1, h2⟩ := Option.map_eq_some_iff.1 sizeBook
  exact ⟨j, h1, by omega⟩
theorem addr_ne {a b : Nat} (h : a ≠ b) : (⟨a, 0, none⟩ : Addr) ≠ ⟨b, 0, none⟩ := fun e => h (by injection e)

/-! ### Join -/
theorem rope_cell {w : World} {g p : Nat} {o k s m leaf : Int} (h : w.heap[g]? = some (ropeCells p o k s m leaf)) (i : Nat) : w.cell? ⟨g, i, none⟩ = #[Value.pointer (some ⟨p, 0, none⟩), .int .i64 o, .int .i64 k, .int .i64 s, .int .i64 m, .int .i64 leaf, .bool false, .slice none 0 0, .slice none 0 0][i]? := blk_cell h i

set_option maxHeartbeats 2000000 in
set_option maxRecDepth 100000 in
theorem join_other (gx gy px py : Nat) (o k s m leaf o' k' s' m' leaf' : Int) (cx cy : Array Value) (w : World) (hx : w.heap[gx]? = some (ropeCells px o k s m leaf)) (hy : w.heap[gy]? = some (ropeCells py o' k' s' m' leaf')) (hg : gx ≠ gy) (hp : px ≠ py)
    (hbx : w.heap[px]? = some (.cells cx 119)) (hby : w.heap[py]? = some (.cells cy 119)) :
    Calls Try.prog 49 #[.pointer (some ⟨gx, 0, none⟩), .pointer (some ⟨gy, 0, none⟩)] w fun e w' => e = .returned (.int .i64 15) ∧ Below w.heap.size w w' := by
  have x6 : w.cell? ⟨gx, 6, none⟩ = some (.bool false) := (rope_cell hx 6).trans rfl
  have y6 : w.cell? ⟨gy, 6, none⟩ = some (.bool false) := (rope_cell hy 6).trans rfl
  have x0 : w.cell? ⟨gx, 0, none⟩ = some (.pointer (some ⟨px, 0, none⟩)) := (rope_cell hx 0).trans rfl
  have y0 : w.cell? ⟨gy, 0, none⟩ = some (.pointer (some ⟨py, 0, none⟩)) := (rope_cell hy 0).trans rfl
  obtain ⟨jr, hjr, hjrs⟩ := infoRope
  obtain ⟨jb, hjb, hjbs⟩ := infoBook
  have he1 := run_eql_ptr_other w Try.underlying57 hjr hjrs (addr_ne hg) hx hy
  have he2 : ∀ nq, (binOp .neq 49 (.pointer (some ⟨px, 0, none⟩)) (.pointer (some ⟨py, 0, none⟩))).run Try.prog (w.drewN nq) = .ok (.bool true) (w.drewN nq) := fun nq => run_neq_other (w.drewN nq) Try.underlying49 hjb hjbs (addr_ne hp) hbx hby
  clear hjr hjb hx hy hbx hby
  go_enter Try.func49, Try.ntmps49
  go_wp2
  go_quiet ((fail))
  go_wp2
  go_ret
  exact ⟨rfl, pw_below_drewN (Below.refl _ _) _⟩

/-! ### what stands behind the checks, at ropes without leaves and marks -/
set_option maxRecDepth 100000 in
theorem sizes_nil (g : Nat) (w : World) (h : w.cell? ⟨g, 7, none⟩ = some (.slice none 0 0)) : Calls Try.prog 90 #[.pointer (some ⟨g, 0, none⟩)] w fun e w' => e = .returned (.slice none 0 0) ∧ w = w' := by
  go_enter Try.func90, Try.ntmps90
  go_wp2
  go_loop [3, 11] (fun v i => v = .slice none 0 0 ∧ i = .int .i64 0) (fun _ _ => 0)
  case atStart => exact ⟨rfl, rfl⟩
  case round =>
    obtain ⟨rfl, rfl⟩ := hrel
    go_wp2
    go_ret
    exact ⟨rfl, rfl⟩
set_option maxRecDepth 100000 in
theorem total_nil (w : World) : Calls Try.prog 89 #[.slice none 0 0] w fun e w' => e = .returned (.tuple #[.int .i64 0, .int .i64 0]) ∧ w = w' := by
  go_enter Try.func89, Try.ntmps89
  go_wp2
  go_loop [2, 3, 8] (fun a b i => a = .int .i64 0 ∧ b = .int .i64 0 ∧ i = .int .i64 0) (fun _ _ _ => 0)
  case atStart => exact ⟨rfl, rfl, rfl⟩
  case round =>
    obtain ⟨rfl, rfl, rfl⟩ := hrel
    go_wp2
    go_ret2
    exact ⟨rfl, rfl⟩
set_option maxRecDepth 100000 in
theorem len_nil (g : Nat) (w : World) (h : w.cell? ⟨g, 7, none⟩ = some (.slice none 0 0)) : Calls Try.prog 78 #[.pointer (some ⟨g, 0, none⟩)] w fun e w' => e = .returned (.int .i64 0) ∧ w = w' := by
  have H := Aside0.mk h
  clear h
  go_enter Try.func78, Try.ntmps78
  go_wp2_with (first | (go_at_call 90; refine (sizes_nil _ _ H.out).mono ?_; rintro e w' ⟨rfl, rfl⟩) | (go_at_call 89; refine (total_nil _).mono ?_; rintro e w' ⟨rfl, rfl⟩))
  go_ret
  exact ⟨rfl, rfl⟩
set_option maxRecDepth 100000 in
theorem indexFunc_nil (f : Value) (w : World) : Calls Try.prog 91 #[.slice none 0 0, f] w fun e w' => e = .returned (.int .i64 (-1)) ∧ w = w' := by
  go_enter Try.func91, Try.ntmps91
  go_wp2
  go_loop [5, 8] (fun _ i => i = .int .i64 0) (fun _ _ => 0)
  case atStart => rfl
  case round =>
    obtain rfl := hrel
    go_wp2
    go_ret
    exact ⟨rfl, rfl⟩
set_option maxRecDepth 100000 in
theorem containsFunc_nil (f : Value) (w : World) : Calls Try.prog 79 #[.slice none 0 0, f] w fun e w' => e = .returned (.bool false) ∧ w = w' := by
  go_enter Try.func79, Try.ntmps79
  go_wp2_with (go_at_call 91; refine (indexFunc_nil _ _).mono ?_; rintro e w' ⟨rfl, rfl⟩)
  go_ret
  exact ⟨rfl, rfl⟩
set_option maxRecDepth 100000 in
theorem grow_nil (w : World) : Calls Try.prog 93 #[.slice none 0 0, .int .i64 0] w fun e w' => e = .returned (.slice none 0 0) ∧ w = w' := by
  go_enter Try.func93, Try.ntmps93
  go_wp2
  go_ret
  exact ⟨rfl, rfl⟩
set_option maxHeartbeats 1000000 in
set_option maxRecDepth 100000 in
theorem concat_nil (b : Nat) (w : World) (h0 : w.cell? ⟨b, 0, none⟩ = some (.slice none 0 0)) (h1 : w.cell? ⟨b, 1, none⟩ = some (.slice none 0 0)) :
    Calls Try.prog 81 #[.slice (some ⟨b, 0, none⟩) 2 2] w fun e w' => e = .returned (.slice none 0 0) ∧ Below w.heap.size w w' := by
  go_enter Try.func81, Try.ntmps81
  go_wp2
  go_loop [3, 5, 11] (fun s _ i => s = .int .i64 0 ∧ ∃ k : Nat, k ≤ 2 ∧ i = .int .i64 k) (fun _ _ i => 2 - (intOf i).toNat)
  case atStart => exact ⟨rfl, 0, by omega, rfl⟩
  case round =>
    obtain ⟨rfl, k, hk, rfl⟩ := hrel
    rcases (show k = 0 ∨ k = 1 ∨ k = 2 by omega) with rfl | rfl | rfl
    · go_wp2
      go_round
      case rel => exact ⟨rfl, 1, by omega, rfl⟩
      case measure => simp [intOf]
    · go_wp2
      go_round
      case rel => exact ⟨rfl, 2, by omega, rfl⟩
      case measure => simp [intOf]
    · go_wp2_with (go_at_call 93; refine (grow_nil _).mono ?_; rintro e w' ⟨rfl, rfl⟩)
      go_loop [6, 8, 27] (fun v _ i => v = .slice none 0 0 ∧ ∃ k : Nat, k ≤ 2 ∧ i = .int .i64 k) (fun _ _ i => 2 - (intOf i).toNat)
      case atStart => exact ⟨rfl, 0, by omega, rfl⟩
      case round =>
        obtain ⟨rfl, k, hk, rfl⟩ := hrel
        rcases (show k = 0 ∨ k = 1 ∨ k = 2 by omega) with rfl | rfl | rfl
        · go_wp2
          go_round
          case rel => exact ⟨rfl, 1, by omega, rfl⟩
          case measure => simp [intOf]
        · go_wp2
          go_round
          case rel => exact ⟨rfl, 2, by omega, rfl⟩
          case measure => simp [intOf]
        · go_wp2
          go_ret
          exact ⟨rfl, Below.refl _ _⟩

theorem run_neq_policy (w : World) (x0 y0 x1 y1 x2 y2 : Int) : (binOp .neq 48 (.agg #[.int .i64 x0, .int .i64 x1, .int .i64 x2]) (.agg #[.int .i64 y0, .int .i64 y1, .int .i64 y2])).run Try.prog w = .ok (.bool (!(x0 == y0 && (x1 == y1 && (x2 == y2))))) w := by
  simp only [binOp]
  simp [Op.equal, Op.maxDepth, eqPolicy 9998 w x0 y0 x1 y1 x2 y2]
theorem policy_ne {k s m k' s' m' : Int} (h : ¬ (k = k' ∧ s = s' ∧ m = m')) : (!(k == k' && (s == s' && (m == m')))) = true := by
  simp only [Bool.not_eq_true', Bool.and_eq_false_imp]
  simp
  omega

set_option maxHeartbeats 4000000 in
set_option maxRecDepth 100000 in
theorem join_form (gx gy p : Nat) (o k s m leaf k' s' m' leaf' : Int) (w : World) (hx : w.heap[gx]? = some (ropeCells p o k s m leaf)) (hy : w.heap[gy]? = some (ropeCells p o k' s' m' leaf')) (hg : gx ≠ gy)
    (hne : ¬ ((k = k' ∧ s = s' ∧ m = m') ∧ leaf = leaf')) :
    Calls Try.prog 49 #[.pointer (some ⟨gx, 0, none⟩), .pointer (some ⟨gy, 0, none⟩)] w fun e w' => e = .returned (.int .i64 1) ∧ Below w.heap.size w w' := by
  have x6 : w.cell? ⟨gx, 6, none⟩ = some (.bool false) := (rope_cell hx 6).trans rfl
  have y6 : w.cell? ⟨gy, 6, none⟩ = some (.bool false) := (rope_cell hy 6).trans rfl
  have x0 : w.cell? ⟨gx, 0, none⟩ = some (.pointer (some ⟨p, 0, none⟩)) := (rope_cell hx 0).trans rfl
  have y0 : w.cell? ⟨gy, 0, none⟩ = some (.pointer (some ⟨p, 0, none⟩)) := (rope_cell hy 0).trans rfl
  have x1 : w.cell? ⟨gx, 1, none⟩ = some (.int .i64 o) := (rope_cell hx 1).trans rfl
  have y1 : w.cell? ⟨gy, 1, none⟩ = some (.int .i64 o) := (rope_cell hy 1).trans rfl
  have x2 : w.cell? ⟨gx, 2, none⟩ = some (.int .i64 k) := (rope_cell hx 2).trans rfl
  have y2 : w.cell? ⟨gy, 2, none⟩ = some (.int .i64 k') := (rope_cell hy 2).trans rfl
  have x3 : w.cell? ⟨gx, 3, none⟩ = some (.int .i64 s) := (rope_cell hx 3).trans rfl
  have y3 : w.cell? ⟨gy, 3, none⟩ = some (.int .i64 s') := (rope_cell hy 3).trans rfl
  have x4 : w.cell? ⟨gx, 4, none⟩ = some (.int .i64 m) := (rope_cell hx 4).trans rfl
  have y4 : w.cell? ⟨gy, 4, none⟩ = some (.int .i64 m') := (rope_cell hy 4).trans rfl
  have x5 : w.cell? ⟨gx, 5, none⟩ = some (.int .i64 leaf) := (rope_cell hx 5).trans rfl
  have y5 : w.cell? ⟨gy, 5, none⟩ = some (.int .i64 leaf') := (rope_cell hy 5).trans rfl
  obtain ⟨jr, hjr, hjrs⟩ := infoRope
  obtain ⟨jb, hjb, hjbs⟩ := infoBook
  have he1 := run_eql_ptr_other w Try.underlying57 hjr hjrs (addr_ne hg) hx hy
  have he2 : ∀ nq, (binOp .neq 49 (.pointer (some ⟨p, 0, none⟩)) (.pointer (some ⟨p, 0, none⟩))).run Try.prog (w.drewN nq) = .ok (.bool false) (w.drewN nq) := fun nq => Lib.run_neq_ptr_same (w.drewN nq) _ Try.underlying49 hjb
  have he3 : ∀ a b, _ := fun a b => run_neq_policy ((w.drewN a).drewN b) k k' s s' m m'
  have he4 : ∀ a, _ := fun a => run_neq_policy (w.drewN a) k k' s s' m m'
  clear hjr hjb hx hy
  by_cases hp : k = k' ∧ s = s' ∧ m = m'
  · obtain ⟨rfl, rfl, rfl⟩ := hp
    have hl : (leaf != leaf') = true := by
      rw [bne_iff_ne]; exact fun e => hne ⟨⟨rfl, rfl, rfl⟩, e⟩
    clear hne
    simp only [BEq.rfl, Bool.and_self, Bool.not_true] at he3 he4
    go_enter Try.func49, Try.ntmps49
    go_wp2
    go_quiet ((fail))
    go_wp2
    go_quiet ((fail))
    go_wp2
    go_ret
    exact ⟨rfl, by repeat (first | exact Below.refl _ _ | apply pw_below_drewN)⟩
  · have hb1 : (!(k == k') || (!(s == s') || (!(m == m')))) = true := by simp; omega
    have hb2 : (k != k' || (s != s' || (m != m'))) = true := by simp; omega
    clear hne hp he3 he4
    go_enter Try.func49, Try.ntmps49
    go_wp2
    go_quiet ((fail))
    go_wp2
    go_quiet ((fail))
    go_wp2
    go_ret
    exact ⟨rfl, by repeat (first | exact Below.refl _ _ | apply pw_below_drewN)⟩

theorem join_kept {w w2 : World} {g p : Nat} {o k s m leaf : Int} {ob : Obj} {n : Nat} (h : w.heap[g]? = some (ropeCells p o k s m leaf)) (hb : Below ((w.drewN n).alloc ob).heap.size ((w.drewN n).alloc ob) w2) :
    w2.cell? ⟨g, 6, none⟩ = some (.bool false) ∧ w2.cell? ⟨g, 7, none⟩ = some (.slice none 0 0) ∧ w2.cell? ⟨g, 8, none⟩ = some (.slice none 0 0) ∧ w2.frozen? ⟨g, 6, none⟩ = false ∧ w2.frozen? ⟨g, 7, none⟩ = false ∧ w2.frozen? ⟨g, 8, none⟩ = false := by
  have h1 : w2.heap[g]? = some (ropeCells p o k s m leaf) := (hb.block g (by have := blk_lt h; rw [alloc_size]; show g < w.heap.size + 1; omega)).trans (blk_alloc (blk_drewN h n) ob)
  exact ⟨(rope_cell h1 6).trans rfl, (rope_cell h1 7).trans rfl, (rope_cell h1 8).trans rfl, blk_frozen h1 6, blk_frozen h1 7, blk_frozen h1 8⟩

theorem join_upd {w w2 : World} {gx gy n : Nat} {ob : Obj} (hb : Below ((w.drewN n).alloc ob).heap.size ((w.drewN n).alloc ob) w2) : Upd (fun k => k = gx ∨ k = gy) w w2 :=
  Upd.of_below (below_then (((pw_below_drewN (Below.refl _ _) n).alloc (Nat.le_refl _) ob)) (by rw [alloc_size]; show w.heap.size ≤ w.heap.size + 1; omega) hb)

set_option maxHeartbeats 4000000 in
set_option maxRecDepth 100000 in
theorem join_ok (gx gy p : Nat) (o k s m leaf : Int) (w : World) (hx : w.heap[gx]? = some (ropeCells p o k s m leaf)) (hy : w.heap[gy]? = some (ropeCells p o k s m leaf)) (hg : gx ≠ gy) :
    Calls Try.prog 49 #[.pointer (some ⟨gx, 0, none⟩), .pointer (some ⟨gy, 0, none⟩)] w fun e w' => e = .returned (.int .i64 0) ∧ Upd (fun k => k = gx ∨ k = gy) w w' := by
  have x6 : w.cell? ⟨gx, 6, none⟩ = some (.bool false) := (rope_cell hx 6).trans rfl
  have y6 : w.cell? ⟨gy, 6, none⟩ = some (.bool false) := (rope_cell hy 6).trans rfl
  have x0 : w.cell? ⟨gx, 0, none⟩ = some (.pointer (some ⟨p, 0, none⟩)) := (rope_cell hx 0).trans rfl
  have y0 : w.cell? ⟨gy, 0, none⟩ = some (.pointer (some ⟨p, 0, none⟩)) := (rope_cell hy 0).trans rfl
  have x1 : w.cell? ⟨gx, 1, none⟩ = some (.int .i64 o) := (rope_cell hx 1).trans rfl
  have y1 : w.cell? ⟨gy, 1, none⟩ = some (.int .i64 o) := (rope_cell hy 1).trans rfl
  have x2 : w.cell? ⟨gx, 2, none⟩ = some (.int .i64 k) := (rope_cell hx 2).trans rfl
  have y2 : w.cell? ⟨gy, 2, none⟩ = some (.int .i64 k) := (rope_cell hy 2).trans rfl
  have x3 : w.cell? ⟨gx, 3, none⟩ = some (.int .i64 s) := (rope_cell hx 3).trans rfl
  have y3 : w.cell? ⟨gy, 3, none⟩ = some (.int .i64 s) := (rope_cell hy 3).trans rfl
  have x4 : w.cell? ⟨gx, 4, none⟩ = some (.int .i64 m) := (rope_cell hx 4).trans rfl
  have y4 : w.cell? ⟨gy, 4, none⟩ = some (.int .i64 m) := (rope_cell hy 4).trans rfl
  have x5 : w.cell? ⟨gx, 5, none⟩ = some (.int .i64 leaf) := (rope_cell hx 5).trans rfl
  have y5 : w.cell? ⟨gy, 5, none⟩ = some (.int .i64 leaf) := (rope_cell hy 5).trans rfl
  have x7 : w.cell? ⟨gx, 7, none⟩ = some (.slice none 0 0) := (rope_cell hx 7).trans rfl
  have y7 : w.cell? ⟨gy, 7, none⟩ = some (.slice none 0 0) := (rope_cell hy 7).trans rfl
  have x8 : w.cell? ⟨gx, 8, none⟩ = some (.slice none 0 0) := (rope_cell hx 8).trans rfl
  have y8 : w.cell? ⟨gy, 8, none⟩ = some (.slice none 0 0) := (rope_cell hy 8).trans rfl
  obtain ⟨jr, hjr, hjrs⟩ := infoRope
  obtain ⟨jb, hjb, hjbs⟩ := infoBook
  have he1 := run_eql_ptr_other w Try.underlying57 hjr hjrs (addr_ne hg) hx hy
  have he2 : ∀ nq, (binOp .neq 49 (.pointer (some ⟨p, 0, none⟩)) (.pointer (some ⟨p, 0, none⟩))).run Try.prog (w.drewN nq) = .ok (.bool false) (w.drewN nq) := fun nq => Lib.run_neq_ptr_same (w.drewN nq) _ Try.underlying49 hjb
  have HX := Aside0.mk hx
  have HY := Aside0.mk hy
  clear hjr hjb hx hy
  go_enter Try.func49, Try.ntmps49
  go_wp2
  go_quiet ((fail))
  go_wp2
  go_quiet ((fail))
  go_wp2_with (first | (go_at_call 78; refine (len_nil _ _ (by first | exact x7 | exact y7)).mono ?_; rintro e w' ⟨rfl, rfl⟩) | (go_at_call 79; refine (containsFunc_nil _ _).mono ?_; rintro e w' ⟨rfl, rfl⟩))
  go_quiet ((fail))
  go_wp2
  go_loopw [6, 97] (fun _ i wr => i = .int .i64 0 ∧ ∃ n, wr = w.drewN n) (fun _ _ _ => 0)
  case atStart => exact ⟨rfl, _, by first | rfl | (simp only [World.drewN_drewN]; rfl)⟩
  case round =>
    obtain ⟨rfl, n, rfl⟩ := hrel
    go_wp2
    go_region_with (go_at_call 81; refine (concat_nil w.heap.size _ (by exact (blk_cell (blk_new w _) 0).trans rfl) (by exact (blk_cell (blk_new w _) 1).trans rfl)).mono ?_; rintro e w2 ⟨rfl, hb⟩; obtain ⟨ha6, ha7, ha8, hf6, hf7, hf8⟩ := join_kept HX.out hb; obtain ⟨hb6, hb7, hb8, hg6, hg7, hg8⟩ := join_kept HY.out hb; have HU := Aside0.mk (join_upd (gx := gx) (gy := gy) hb); clear hb)
    all_goals
      go_wp2
      go_ret
      exact ⟨rfl, (((HU.out.setCell ⟨gx, 7, none⟩ (.inl (.inl rfl)) _).setCell ⟨gy, 7, none⟩ (.inl (.inr rfl)) _).setCell ⟨gy, 8, none⟩ (.inl (.inr rfl)) _).setCell ⟨gy, 6, none⟩ (.inl (.inr rfl)) _⟩
end Go.Proofs.Ytancgipidbojkaa.RopeJoin
