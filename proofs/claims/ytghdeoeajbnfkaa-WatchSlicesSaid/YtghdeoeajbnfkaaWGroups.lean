/- Groups, where no two slices share an octet. -/
import Derived.Test.YtghdeoeajbnfkaaWVisit
namespace Go.Proofs.Ytghdeoeajbnfkaa.WSl
open Go.RowKit Go.Proofs.YtghdeoeajbnfkaaW.PrintWords Go.Proofs.YtghdeoeajbnfkaaW.PrintLast Go.Proofs.YtghdeoeajbnfkaaW.PrintMore Go.Proofs.Ytghdeoeajbnfkaa.WMem Go.Proofs.Ytghdeoeajbnfkaa.MapInt
set_option linter.unusedSimpArgs false
set_option linter.unusedVariables false

/-- The groups while they are visited. -/
def vis (k n : Nat) : List Int := (List.range k).map (fun (j : Nat) => (j : Int)) ++ List.replicate (n - k) (-1)
theorem vis_at (k n j : Nat) (hj : j < n) (hk : k ≤ n) : (vis k n).getD j 0 = if j < k then (j : Int) else -1 := by
  unfold vis
  rw [List.getD_eq_getElem?_getD, List.getElem?_append]
  simp only [List.length_map, List.length_range]
  split
  · next h => simp [h]
  · next h => simp [show j - k < n - k by omega]
theorem vis_len (k n : Nat) (hk : k ≤ n) : (vis k n).length = n := by
  simp [vis]; omega

structure GMid (w wr : World) (p q g r n k : Nat) (f : Value) : Prop where
  below : Below w.heap.size w wr
  mid : VMid wr p q g r n (vis k n)
  fn : wr.cell? ⟨p + 1, 0, none⟩ = some f

theorem GMid.next {w wr : World} {p q g r n k : Nat} {f : Value} (h : GMid w wr p q g r n k f) (hk : k < n) (hw : w.heap.size ≤ g) (hp : p ≠ g) (hp1 : p + 1 ≠ g) (hq : q ≠ g) (hr : r ≠ g) : GMid w (wr.setCell ⟨g, k, none⟩ (.int .i64 k)) p q g r n (k + 1) f := by
  refine ⟨h.below.setCell (p := ⟨g, k, none⟩) hw _, ⟨vis_len _ _ (by omega), ⟨_, (World.cell?_setCell_far _ _ _ _ (show g ≠ p from fun e => hp e.symm)).trans h.mid.out.choose_spec⟩, (World.cell?_setCell_far _ _ _ _ (show g ≠ q from fun e => hq e.symm)).trans h.mid.leads, h.mid.map.of_heap (Below.heap_setCell _ _ _ _ hr), fun j hj => ⟨?_, ?_⟩⟩, (World.cell?_setCell_far _ _ _ _ (show g ≠ p + 1 from fun e => hp1 e.symm)).trans h.fn⟩
  · have hrow := (h.mid.row j hj).1
    rw [vis_at _ _ _ hj (by omega)] at hrow
    rw [vis_at _ _ _ hj (by omega)]
    by_cases he : k = j
    · subst he
      rw [World.cell?_setCell_same _ _ _ hrow, if_pos (by omega)]
    · rw [World.cell?_setCell_other (h := at_ne (fun e => he e.2)), hrow]
      congr 3
      simp only [eq_iff_iff]
      omega
  · rw [World.frozen?_setCell]
    exact (h.mid.row j hj).2

/-- A function's value goes into its variable. -/
theorem store_fn {P : Program} (W : World) (b : Nat) (f : Fn) (caps : Array Value) (v : Value) (hc : W.cell? ⟨b, 0, none⟩ = some v) (hf : W.frozen? ⟨b, 0, none⟩ = false) :
    (store ⟨b, 0, none⟩ (Value.func f #[] caps)).run P W = .ok () (W.setCell ⟨b, 0, none⟩ (Value.func f #[] caps)) := by
  have h1 := run_storeCells_cells (P := P) b 0 [Value.func f #[] caps] 0 W (fun j hj => by
    have : j = 0 := by simpa using hj
    subst this
    simp [hc]) (fun j hj => by
    have : j = 0 := by simpa using hj
    subst this
    simpa using hf) (fun v hv => by
    rw [List.mem_singleton.1 hv]
    rfl)
  simp [store, World.setCells] at h1 ⊢
  exact h1

set_option maxHeartbeats 8000000 in
set_option maxRecDepth 100000 in
theorem groups0 (A : Option Addr) (g o c : Nat) (l : List Sl) (w : World) (hl : RowAt w A g o l) (hs : ∀ s ∈ l, Lies w s) (hn : l.length ≤ 1000000) (h0 : mall l l.length = []) :
    Calls Try.prog 9 #[.slice A l.length c] w fun e w' => ∃ v, e = .returned (.tuple #[v, .int .i64 (chk l)]) ∧ Below w.heap.size w w' := by
  have hmf : ∀ (fn : Fn) (first cap : Array Value) (w : World), (Instr.makeFunc fn first cap).run Try.prog w = .ok (.func fn first cap) w := fun _ _ _ _ => rfl
  have hmk : ∀ w : World, (Instr.makeMap 64 none).run Try.prog w = .ok (.map (some w.heap.size)) (w.alloc (.map #[] 0)) := fun w => by simp [Instr.makeMap, run_underlying Try.underlying64]
  have HM := Aside0.mk (meetsAll A g o c l w hl hs hn)
  have hcc := chk_cases l
  rw [h0] at HM
  clear hl hs h0
  generalize chk l = q at *
  generalize l.length = n at *
  rcases hcc with rfl | rfl
  · go_enter Try.func9, Try.ntmps9
    go_wp2_with (first | (go_at_call 8; refine HM.out.mono ?_; rintro e w1 ⟨v, out, rfl, hmm, _, hv⟩; have HB := Aside0.mk hmm.below; obtain rfl := hv (by decide); clear hmm hv))
    refine bodyPost_ret (results_tmp2 rfl _ _ _) rfl ?_
    exact ⟨_, rfl, HB.out⟩
  · go_enter Try.func9, Try.ntmps9
    go_wp2_with (first | (go_at_call 8; refine HM.out.mono ?_; rintro e w1 ⟨v, out, rfl, hmm, ho, _⟩; have HB := Aside0.mk hmm.below; obtain rfl := ho rfl; obtain ⟨VA, vc, rfl⟩ := Kd.R_slice hmm.row; clear hmm ho) | fail)
    go_loop [8, 23] (fun _ i => i = .int .i64 0) (fun _ _ => 0)
    case atStart => exact rfl
    case round =>
      subst hrel
      go_wp2_with fail
      have b3 := blk_new ((w1.alloc (.map #[] 0)).alloc (.cells #[.map (some w1.heap.size)] 64)) (.cells #[.int .i64 (-1)] 3)
      have b2 := blk_alloc (blk_new (w1.alloc (.map #[] 0)) (.cells #[.map (some w1.heap.size)] 64)) (.cells #[.int .i64 (-1)] 3)
      have b1 := blk_alloc (blk_alloc (blk_new w1 (.map #[] 0)) (.cells #[.map (some w1.heap.size)] 64)) (.cells #[.int .i64 (-1)] 3)
      have hB0 : Below w1.heap.size w1 (((w1.alloc (.map #[] 0)).alloc (.cells #[.map (some w1.heap.size)] 64)).alloc (.cells #[.int .i64 (-1)] 3)) := by
        repeat (first | exact Below.refl _ _ | apply below_alloc)
      have hsz : (((w1.alloc (.map #[] 0)).alloc (.cells #[.map (some w1.heap.size)] 64)).alloc (.cells #[.int .i64 (-1)] 3)).heap.size = w1.heap.size + 3 := by simp
      have e1 : (w1.alloc (.map #[] 0)).heap.size = w1.heap.size + 1 := by simp
      have e2 : ((w1.alloc (.map #[] 0)).alloc (.cells #[.map (some w1.heap.size)] 64)).heap.size = w1.heap.size + 1 + 1 := by simp
      rw [e2] at b3
      rw [e1] at b2
      generalize (((w1.alloc (.map #[] 0)).alloc (.cells #[.map (some w1.heap.size)] 64)).alloc (.cells #[.int .i64 (-1)] 3)) = w2 at *
      refine (repeat1 (w1.heap.size + 1 + 1) n w2 (by rw [blk_cell b3]; rfl) hn).mono ?_
      rintro e w3 ⟨v3, rfl, hr3, hb3⟩
      obtain ⟨A3, c3, rfl⟩ := Kd.R_slice hr3
      rw [List.length_replicate] at *
      have HR3 := Aside0.mk hr3
      have HB3 := Aside0.mk hb3
      have HB0 := Aside0.mk hB0
      have B1 := Aside0.mk b1
      have B2 := Aside0.mk b2
      have HSZ := Lib.hid hsz
      clear hr3 hb3 hB0 b1 b2 b3 e1 e2 hsz
      have hb := heap_alloc2_new w3 (.cells #[.slice A3 n c3] 35) (.cells #[.nilFunc] 66)
      have hst := fun caps => store_fn (P := Try.prog) ((w3.alloc (.cells #[.slice A3 n c3] 35)).alloc (.cells #[.nilFunc] 66)) (w3.heap.size + 1) (.func 26) caps .nilFunc (by rw [blk_cell hb]; rfl) (blk_frozen hb 0)
      clear hb
      go_wp2_with fail
      by_cases hn0 : n = 0
      · subst hn0
        go_loop [11, 57] (fun _ i => i = .int .i64 0) (fun _ _ => 0)
        case atStart => exact rfl
        case round =>
          subst hrel
          have HE := Aside0.mk ((HB.out.trans (HB0.out.mono HB.out.size)).trans ((HB3.out.mono (by have := HB.out.size; have := HB0.out.size; omega)).trans ((below_alloc (below_alloc (Below.refl w3.heap.size w3) (.cells #[.slice A3 0 c3] 35)) (.cells #[(Value.func (Fn.func 26) #[] #[.pointer (some ⟨w3.heap.size, 0, none⟩), .pointer (some ⟨w1.heap.size + 1, 0, none⟩), .pointer (some ⟨w3.heap.size + 1, 0, none⟩)])] 66)).mono (by have := HB.out.size; have := HB0.out.size; have := HB3.out.size; omega))))
          go_wp2
          refine bodyPost_ret (results_tmp2 rfl _ _ _) rfl ?_
          exact ⟨⟨_, rfl⟩, HE.out⟩
      · obtain ⟨g3, cap, he, hg3, hlt3, cells, hbk⟩ := Kd.R_form HR3.out (by simp; omega)
        rw [List.length_replicate] at he
        injection he with he1 _ he2
        subst he1 he2
        have hs2 := HSZ.out
        have hge : w1.heap.size + 3 ≤ w3.heap.size := by have := HB3.out.size; omega
        have hO1 := blk_new w3 (.cells #[.slice (some ⟨g3, 0, none⟩) n c3] 35)
        have hO := blk_alloc hO1 (.cells #[(Value.func (Fn.func 26) #[] #[.pointer (some ⟨w3.heap.size, 0, none⟩), .pointer (some ⟨w1.heap.size + 1, 0, none⟩), .pointer (some ⟨w3.heap.size + 1, 0, none⟩)])] 66)
        have hV := heap_alloc2_new w3 (.cells #[.slice (some ⟨g3, 0, none⟩) n c3] 35) (.cells #[(Value.func (Fn.func 26) #[] #[.pointer (some ⟨w3.heap.size, 0, none⟩), .pointer (some ⟨w1.heap.size + 1, 0, none⟩), .pointer (some ⟨w3.heap.size + 1, 0, none⟩)])] 66)
        have hBw : Below w3.heap.size w3 ((w3.alloc (.cells #[.slice (some ⟨g3, 0, none⟩) n c3] 35)).alloc (.cells #[(Value.func (Fn.func 26) #[] #[.pointer (some ⟨w3.heap.size, 0, none⟩), .pointer (some ⟨w1.heap.size + 1, 0, none⟩), .pointer (some ⟨w3.heap.size + 1, 0, none⟩)])] 66)) := below_alloc (below_alloc (Below.refl _ _) _) _
        have hfn : ((w3.alloc (.cells #[.slice (some ⟨g3, 0, none⟩) n c3] 35)).alloc (.cells #[(Value.func (Fn.func 26) #[] #[.pointer (some ⟨w3.heap.size, 0, none⟩), .pointer (some ⟨w1.heap.size + 1, 0, none⟩), .pointer (some ⟨w3.heap.size + 1, 0, none⟩)])] 66)).cell? ⟨w3.heap.size + 1, 0, none⟩ = some (Value.func (Fn.func 26) #[] #[.pointer (some ⟨w3.heap.size, 0, none⟩), .pointer (some ⟨w1.heap.size + 1, 0, none⟩), .pointer (some ⟨w3.heap.size + 1, 0, none⟩)]) := by rw [blk_cell hV]; rfl
        have hou : ((w3.alloc (.cells #[.slice (some ⟨g3, 0, none⟩) n c3] 35)).alloc (.cells #[(Value.func (Fn.func 26) #[] #[.pointer (some ⟨w3.heap.size, 0, none⟩), .pointer (some ⟨w1.heap.size + 1, 0, none⟩), .pointer (some ⟨w3.heap.size + 1, 0, none⟩)])] 66)).cell? ⟨w3.heap.size, 0, none⟩ = some (.slice (some ⟨g3, 0, none⟩) n c3) := by rw [blk_cell hO]; rfl
        generalize hW4 : ((w3.alloc (.cells #[.slice (some ⟨g3, 0, none⟩) n c3] 35)).alloc (.cells #[(Value.func (Fn.func 26) #[] #[.pointer (some ⟨w3.heap.size, 0, none⟩), .pointer (some ⟨w1.heap.size + 1, 0, none⟩), .pointer (some ⟨w3.heap.size + 1, 0, none⟩)])] 66)) = W4 at *
        have k0 : ∀ b, b < w2.heap.size → W4.heap[b]? = w2.heap[b]? := fun b hb => (hBw.block b (Nat.lt_of_lt_of_le hb HB3.out.size)).trans (HB3.out.block b hb)
        have hmap : IntMap W4 w1.heap.size [] := ⟨#[], 0, (k0 _ (by omega)).trans B1.out, rfl⟩
        have hld : W4.cell? ⟨w1.heap.size + 1, 0, none⟩ = some (.map (some w1.heap.size)) := by
          rw [blk_cell ((k0 _ (by omega)).trans B2.out)]; rfl
        have hrow : ∀ j, j < n → W4.cell? ⟨g3, j, none⟩ = some (.int .i64 ((vis 0 n).getD j 0)) ∧ W4.frozen? ⟨g3, j, none⟩ = false := fun j hj => by
          obtain ⟨r1, r2⟩ := Kd.R_celln (0 : Int) HR3.out (j : Int) (by omega) (by omega)
          rw [Int.toNat_natCast] at r1 r2
          have hv : rdOf (0 : Int) (List.replicate n (-1)) (j : Int) = (vis 0 n).getD j 0 := by
            rw [vis_at _ _ _ hj (by omega)]
            simp [rdOf, List.getD_eq_getElem?_getD, hj]
          rw [hv] at r1
          exact ⟨(hBw.cell (p := ⟨g3, j, none⟩) hlt3).trans r1, (hBw.frozen (p := ⟨g3, j, none⟩) hlt3).trans r2⟩
        have hG := GMid.mk (w := w) (wr := W4) (k := 0) ((HB.out.trans (HB0.out.mono HB.out.size)).trans ((HB3.out.mono (by have := HB.out.size; have := HB0.out.size; omega)).trans (hBw.mono (by have := HB.out.size; omega)))) ⟨vis_len 0 n (by omega), ⟨_, hou⟩, hld, hmap, hrow⟩ hfn
        have HG := Aside0.mk hG
        have hwg : w.heap.size ≤ g3 := by have := HB.out.size; have := HB0.out.size; omega
        clear hG hrow hld hmap k0 hfn hou hBw hV hO hO1
        subst hW4
        go_loopw [11, 57] (fun _ i wr => ∃ k : Nat, k ≤ n ∧ i = .int .i64 k ∧ Aside0 (GMid w wr w3.heap.size (w1.heap.size + 1) g3 w1.heap.size n k (Value.func (Fn.func 26) #[] #[.pointer (some ⟨w3.heap.size, 0, none⟩), .pointer (some ⟨w1.heap.size + 1, 0, none⟩), .pointer (some ⟨w3.heap.size + 1, 0, none⟩)]))) (fun _ i _ => n - (intOf i).toNat)
        case atStart => exact ⟨0, Nat.zero_le _, rfl, HG⟩
        case round =>
          obtain ⟨k, hk, rfl, HD⟩ := hrel
          by_cases hlt : k < n
          · have hf := HD.out.fn
            have HN := Aside0.mk (HD.out.next hlt hwg (by omega) (by omega) (by omega) (by omega))
            have HV := Aside0.mk (visit0 w3.heap.size (w1.heap.size + 1) g3 w1.heap.size n (w3.heap.size + 1) k (k : Int) (vis k n) wr HD.out.mid hlt hn (by rw [vis_at _ _ _ hlt (by omega), if_neg (by omega)]) (by omega) (by omega) (by omega))
            go_wp2_with (first | (go_at_call 26; refine HV.out.mono ?_; rintro e w5 ⟨rfl, rfl⟩))
            go_roundw
            case rel => exact ⟨k + 1, by omega, by go_num, HN⟩
            case measure => simp [intOf]; omega
          · obtain ⟨cc, hf⟩ := HD.out.mid.out
            have HE := Aside0.mk HD.out.below
            go_wp2
            refine bodyPost_ret (results_tmp2 rfl _ _ _) rfl ?_
            exact ⟨⟨_, rfl⟩, HE.out⟩

end Go.Proofs.Ytghdeoeajbnfkaa.WSl
