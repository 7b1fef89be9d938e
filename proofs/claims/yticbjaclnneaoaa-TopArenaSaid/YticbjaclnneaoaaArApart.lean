/- Arenas: regions lie apart, with what was written to them. -/
import Derived.Test.YticbjaclnneaoaaArRel
import Derived.Test.YticbjaclnneaoaaArList
namespace Go.Proofs.Yticbjaclnneaoaa.Arena
set_option linter.unusedVariables false
open Go.RowKit Go.Proofs.YticbjaclnneaoaaW.PrintWords Go.Proofs.YticbjaclnneaoaaW.PrintLast Go.Proofs.YticbjaclnneaoaaW.PrintMore Go.Proofs.Yticbjaclnneaoaa.Book Go.Proofs.Yticbjaclnneaoaa.Oct Go.Proofs.Yticbjaclnneaoaa.Pure Go.Proofs.Yticbjaclnneaoaa.MapInt
set_option linter.unusedSimpArgs false

theorem infoSp : (Try.prog.info? 80).map (fun i => (i.zero, i.size, i.bytes)) = some (some (.agg #[.int .i64 0, .int .i64 0, .int .i64 0]), 3, 24) := by kernel_rfl
def spotCells (x : Reg) : List Value := [.int .i64 x.ch, .int .i64 x.frm, .int .i64 x.tt]
theorem spot3 (x : Reg) : (spotCells x).length = 3 := rfl
theorem spAt {w : World} {base : Nat} {A : Option Addr} {n cap : Nat} {rs : List Reg} (h : w.ownsRow base 80 3 (.slice A n cap) n (rowsOf spotCells rs)) {k : Nat} {x : Reg} (hx : rs[k]? = some x) :
    ∃ g, A = some ⟨g, 0, none⟩ ∧ w.cell? ⟨g, k * 3, none⟩ = some (.int .i64 x.ch) ∧ w.cell? ⟨g, k * 3 + 1, none⟩ = some (.int .i64 x.frm) ∧ w.cell? ⟨g, k * 3 + 2, none⟩ = some (.int .i64 x.tt) := by
  obtain ⟨g, c1, e, hc⟩ := own_at spot3 (by decide) h hx
  injection e with e1 e2 e3
  subst e1
  exact ⟨g, rfl, hc 0 _ rfl, hc 1 _ rfl, hc 2 _ rfl⟩
theorem holds_rep {cs : List Chu} {x : Reg} {c : Chu} (h : Holds cs x) (hc : cs[x.ch]? = some c) (h2 : x.tt ≤ c.ys.length) : (c.ys.drop x.frm).take (x.tt - x.frm) = List.replicate (x.tt - x.frm) (byteOf x.no) := by
  apply List.ext_getElem?
  intro j
  rw [List.getElem?_take, List.getElem?_replicate]
  by_cases hj : j < x.tt - x.frm
  · rw [if_pos hj, if_pos hj, List.getElem?_drop]
    exact h c hc (x.frm + j) (by omega) (by omega)
  · rw [if_neg hj, if_neg hj]
theorem own_frame' {w : World} {m base e size n : Nat} {v : Value} {xs : List Value} (h : w.ownsRow base e size v n xs) : (w.drewN m).ownsRow base e size v n xs := own_move h (fun _ _ => rfl)
theorem three_src {W : World} {g : Nat} {a b c : Value} {t : TypeId} (h : W.heap[g]? = some (.cells #[a, b, c] t)) : ∀ j u, ([a, b, c] : List Value)[j]? = some u → W.cell? ((⟨g, 0, none⟩ : Addr).add j) = some u := by
  intro j u hj
  rw [add_zero', blk_cell h j]
  simpa using hj
theorem rd_at {xs : List Int} {n : Nat} {y : Int} (h : xs[n]? = some y) : rd xs (n : Int) = y := by
  simp [rd, h]
theorem cells3 {w : World} {g : Nat} {t : TypeId} {a b c : Value} (h : w.heap[g]? = some (.cells #[a, b, c] t)) : w.cell? ⟨g, 0, none⟩ = some a ∧ w.cell? ⟨g, 1, none⟩ = some b ∧ w.cell? ⟨g, 2, none⟩ = some c := by
  refine ⟨?_, ?_, ?_⟩ <;> rw [blk_cell h] <;> rfl

set_option maxHeartbeats 4000000 in
set_option maxRecDepth 100000 in
theorem apartA {w : World} {aa p : Nat} {k s m size : Int} {S : ArS} {mb : Nat} {l : List (Int × Value)} (hA : ArenaAt w aa p 1 k s m size S) (hG : Good S) (hO : Ord S.rs) (hF : Filled S.cs S.rs) (hm : IntMap w mb l) (hg : ∀ x ∈ S.rs, mget l x.no = some (.int .u8 (byteOf x.no))) :
    Calls Try.prog 17 #[.pointer (some ⟨aa, 0, none⟩), .map (some mb)] w fun e w' => e = .returned (.bool true) ∧ Below w.heap.size w w' := by
  have HA := Aside0.mk hA
  have HG := Aside0.mk hG
  have HO := Aside0.mk hO
  have HF := Aside0.mk hF
  have HM := Aside0.mk hm
  have HMG := Aside0.mk hg
  have HCb := Aside0.mk (blk_new w (.cells #[.map (some mb)] 36))
  have HB1 := Aside0.mk (below_alloc (Below.refl w.heap.size w) (.cells #[.map (some mb)] 36))
  have HCh := Aside0.mk (fun (u : World) (hu : Below w.heap.size w u) => chunksOf (HA.out.below hu) HG.out)
  have HRe := Aside0.mk (fun (u : World) (hu : Below w.heap.size w u) => regionsOf (HA.out.below hu) HG.out)
  have hfewR := hG.fewR
  have hfew := hG.few
  obtain ⟨N, hN⟩ : ∃ N, N = S.rs.length := ⟨_, rfl⟩
  obtain ⟨NC, hNC⟩ : ∃ N, N = S.cs.length := ⟨_, rfl⟩
  rw [← hN] at hfewR HRe
  rw [← hNC] at hfew HCh
  have HN := Lib.hid hN
  have HNC := Lib.hid hNC
  have hmf : ∀ (fn : Fn) (first cap : Array Value) (w : World), (Instr.makeFunc fn first cap).run Try.prog w = .ok (.func fn first cap) w := fun _ _ _ _ => rfl
  obtain ⟨isp, hisp, sz0, sz1, sz2⟩ := info_parts infoSp
  clear hA hG hO hF hm hg hN hNC
  go_enter Try.func17, Try.ntmps17
  go_wp2_with fail
  refine (HCh.out _ HB1.out).mono ?_
  rintro e w2 ⟨v5, rfl, ho5, hb2⟩
  obtain ⟨A5, cap5, rfl, hc5, hr5, hy5⟩ := own_readsI ho5
  have HB2 := Aside0.mk (below_then HB1.out HB1.out.size hb2)
  have HR5 := Aside0.mk hr5
  have HCb2 := Aside0.mk (blk_below HCb.out (by simpa using hb2))
  clear ho5 hr5 hy5 hb2
  go_wp2_with fail
  refine (HRe.out _ HB2.out).mono ?_
  rintro e w3 ⟨v17, rfl, ho17, hb3⟩
  obtain ⟨A17, cap17, rfl, hc17, hr17, hy17⟩ := own_readsI ho17
  have HB3 := Aside0.mk (below_then HB2.out HB2.out.size hb3)
  have HR5 := Aside0.mk (HR5.out.below hb3)
  have HR17 := Aside0.mk hr17
  have HCb3 := Aside0.mk (blk_below HCb2.out hb3)
  have hcbl := blk_lt HCb3.out
  clear ho17 hr17 hy17 hb3
  go_wp2_with fail
  go_loopw [6, 8, 9, 10, 12, 13, 19] (fun s6 _ _ _ _ _ i wr => ∃ n : Nat, n ≤ N ∧ i = .int .i64 n ∧ Aside0 (wr.ownsRow w3.heap.size 80 3 s6 n (rowsOf spotCells (S.rs.take n))) ∧ Aside0 (Below w3.heap.size w3 wr)) (fun _ _ _ _ _ _ i _ => N - (intOf i).toNat)
  case atStart => exact ⟨0, Nat.zero_le _, rfl, ⟨⟨rfl, .inl ⟨rfl, rfl⟩⟩⟩, ⟨Below.refl _ _⟩⟩
  case round =>
    obtain ⟨n, hn, rfl, HV, HB⟩ := hrel
    by_cases hlt : n < N
    · obtain ⟨x, hx⟩ : ∃ x, S.rs[n]? = some x := ⟨_, List.getElem?_eq_getElem (by rw [← HN.out]; exact hlt)⟩
      have hxm := List.mem_of_getElem? hx
      obtain ⟨c, hc, f1, f2⟩ := HG.out.regs x hxm
      have hcl := (List.getElem?_eq_some_iff.1 hc).1
      have hcr := HG.out.chunk (List.mem_of_getElem? hc)
      rw [← HNC.out] at hcl
      obtain ⟨ad17, rfl, k17⟩ := (HR17.out.below HB.out).at_ n (by omega) (by omega)
      rw [Int.toNat_natCast, rd_at (show (nosOf S.rs)[n]? = some x.no by simp [nosOf, hx])] at k17
      have HWh := Aside0.mk (fun (u : World) (hu : Below w.heap.size w u) => whereAt (HA.out.below hu) HG.out hx)
      have HCo := Aside0.mk (fun (u : World) (hu : Below w.heap.size w u) => copyAt (HA.out.below hu) HG.out hx hc)
      have hrep := holds_rep (HF.out x hxm) hc f2
      rw [hrep] at HCo
      have HVG := Aside0.mk (HMG.out x hxm)
      have HX := Lib.hid hx
      have HC := Lib.hid hc
      have hnl := HG.out.nol x hxm
      have hnb : wr.heap.size < (wr.alloc (.cells #[.int .i64 x.no] 3)).heap.size := by rw [alloc_size]; omega
      have HNb := Aside0.mk (blk_new wr (.cells #[.int .i64 x.no] 3))
      have HBa : Aside0 (Below w3.heap.size w3 (wr.alloc (.cells #[.int .i64 x.no] 3))) := ⟨below_alloc HB.out _⟩
      have HBr : Aside0 (Below wr.heap.size wr (wr.alloc (.cells #[.int .i64 x.no] 3))) := ⟨below_alloc (Below.refl _ _) _⟩
      have hwrs := HB.out.size
      clear hx hc hxm hrep
      go_wp2_with fail
      generalize wr.alloc (.cells #[.int .i64 x.no] 3) = wa at *
      refine (HWh.out _ (below_then HB3.out HB3.out.size HBa.out)).mono ?_
      rintro e w4 ⟨rfl, hb4⟩
      have HB5 : Aside0 (Below w3.heap.size w3 (w4.alloc (.cells #[.int .i64 x.ch, .int .i64 x.frm, .int .i64 x.tt] 80))) := ⟨below_alloc (below_then HBa.out HBa.out.size hb4) _⟩
      have HNb5 : Aside0 ((w4.alloc (.cells #[.int .i64 x.ch, .int .i64 x.frm, .int .i64 x.tt] 80)).heap[wr.heap.size]? = some (.cells #[.int .i64 x.no] 3)) := ⟨blk_alloc (blk_below HNb.out hb4) _⟩
      have HSb5 := Aside0.mk (blk_new w4 (.cells #[.int .i64 x.ch, .int .i64 x.frm, .int .i64 x.tt] 80))
      have HBr5 : Aside0 (Below wr.heap.size wr (w4.alloc (.cells #[.int .i64 x.ch, .int .i64 x.frm, .int .i64 x.tt] 80))) := ⟨below_alloc (below_then HBr.out HBr.out.size hb4) _⟩
      have hsb : wr.heap.size < w4.heap.size := Nat.lt_of_lt_of_le hnb hb4.size
      clear hb4 k17
      go_wp2_with fail
      have hls5 : w4.heap.size < (w4.alloc (.cells #[.int .i64 x.ch, .int .i64 x.frm, .int .i64 x.tt] 80)).heap.size := by rw [alloc_size]; omega
      generalize w4.alloc (.cells #[.int .i64 x.ch, .int .i64 x.frm, .int .i64 x.tt] 80) = w5 at *
      generalize w4.heap.size = sb at *
      have HVv := HV.out
      obtain ⟨A6, cap6, rfl, hcap6⟩ := own_shape HVv
      have HV5 : Aside0 (w5.ownsRow w3.heap.size 80 3 (.slice A6 n cap6) n (rowsOf spotCells (S.rs.take n))) := ⟨own_move HVv (fun j hj => HBr5.out.block j (own_lt HVv j hj))⟩
      obtain ⟨ad5, rfl, k5⟩ := (HR5.out.below HB5.out).at_ x.ch (by omega) (by omega)
      rw [Int.toNat_natCast, rd_at (show (roomsOf S.cs)[x.ch]? = some (c.ys.length : Int) by simp [roomsOf, HC.out])] at k5
      obtain ⟨s0, s1, s2⟩ := cells3 HSb5.out
      have HA6 : Aside0 (∀ j, (Value.slice A6 n cap6).ownBlock = some j → w3.heap.size ≤ j ∧ j < wr.heap.size) := ⟨fun j hj => ⟨own_low HVv j hj, own_lt HVv j hj⟩⟩
      clear HVv HV HBr HNb HBa hnb
      have d1 : decide ((x.ch : Int) < 0) = false := decide_eq_false (by omega)
      have d2 : decide (NC ≤ x.ch) = false := decide_eq_false (by omega)
      have d3 : decide ((x.frm : Int) < 0) = false := decide_eq_false (by omega)
      have d4 : decide (x.tt < x.frm) = false := decide_eq_false (by omega)
      have d5 : decide (c.ys.length < x.tt) = false := decide_eq_false (by omega)
      go_quiet ((fail))
      have HB6 : Aside0 (Below w3.heap.size w3 (w5.drewN nq)) := ⟨pw_below_drewN HB5.out _⟩
      have HNb6 : Aside0 ((w5.drewN nq).heap[wr.heap.size]? = some (.cells #[.int .i64 x.no] 3)) := HNb5
      have HSb6 : Aside0 ((w5.drewN nq).heap[sb]? = some (.cells #[.int .i64 x.ch, .int .i64 x.frm, .int .i64 x.tt] 80)) := HSb5
      have HV6 : Aside0 ((w5.drewN nq).ownsRow w3.heap.size 80 3 (.slice A6 n cap6) n (rowsOf spotCells (S.rs.take n))) := ⟨own_frame' HV5.out⟩
      have hls6 : sb < (w5.drewN nq).heap.size := hls5
      clear HNb5 HSb5 HV5 hls5 k5 s0 s1 s2 HB5 HBr5 d1 d2 d3 d4 d5
      generalize w5.drewN nq = w6 at *
      generalize wr.heap.size = nb at *
      go_wp2_with fail
      go_loopw [12, 67] (fun _ i wr => ∃ j : Nat, j ≤ n ∧ i = .int .i64 j ∧ Aside0 (Below w6.heap.size w6 wr)) (fun _ i _ => n - (intOf i).toNat)
      case atStart => exact ⟨0, Nat.zero_le _, rfl, ⟨Below.refl _ _⟩⟩
      case round =>
        obtain ⟨j, hj, rfl, HI⟩ := hrel
        by_cases hjn : j < n
        · obtain ⟨y, hy⟩ : ∃ y, S.rs[j]? = some y := ⟨_, List.getElem?_eq_getElem (by rw [← HN.out]; omega)⟩
          obtain ⟨g6, rfl, c0, c1, c2⟩ := spAt (own_move HV6.out (fun i hi => HI.out.block i (own_lt HV6.out i hi))) (show (S.rs.take n)[j]? = some y by rw [List.getElem?_take, if_pos hjn]; exact hy)
          obtain ⟨s0, s1, s2⟩ := cells3 (blk_below HSb6.out HI.out)
          have hls : sb < wr.heap.size := Nat.lt_of_lt_of_le hls6 HI.out.size
          have hyl : y.frm ≤ y.tt ∧ y.tt ≤ 100000 := HG.out.reg (List.mem_of_getElem? hy)
          have hord : y.ch = x.ch → y.tt ≤ x.frm := fun e => by
            obtain ⟨a1, rfl⟩ := List.getElem?_eq_some_iff.1 hy
            obtain ⟨a2, rfl⟩ := List.getElem?_eq_some_iff.1 HX.out
            have := (List.pairwise_iff_getElem.1 HO.out) j n a1 a2 hjn
            omega
          clear hy
          by_cases hch : y.ch = x.ch
          · have hord := hord hch
            have hmx : (if y.frm < x.frm then (x.frm : Int) else (y.frm : Int)) = (x.frm : Int) := by split <;> omega
            have hmn : (if x.tt < y.tt then (x.tt : Int) else (y.tt : Int)) = (y.tt : Int) := by split <;> omega
            have hd : decide ((x.frm : Int) < (y.tt : Int)) = false := decide_eq_false (by omega)
            have hd' : decide (x.frm < y.tt) = false := decide_eq_false (by omega)
            have hce : ((y.ch : Int) == (x.ch : Int)) = true := beq_iff_eq.2 (by omega)
            go_wp2_with fail
            go_roundw
            case rel => exact ⟨j + 1, by omega, by go_num, ⟨below_alloc HI.out _⟩⟩
            case measure => simp [intOf]; omega
          · have hce : ((y.ch : Int) == (x.ch : Int)) = false := beq_eq_false_iff_ne.2 (by omega)
            go_wp2_with fail
            go_roundw
            case rel => exact ⟨j + 1, by omega, by go_num, ⟨below_alloc HI.out _⟩⟩
            case measure => simp [intOf]; omega
        · obtain rfl : j = n := by omega
          obtain ⟨s0, s1, s2⟩ := cells3 (blk_below HSb6.out HI.out)
          have hls : sb < wr.heap.size := Nat.lt_of_lt_of_le hls6 HI.out.size
          have HV7 : Aside0 (wr.ownsRow w3.heap.size 80 3 (.slice A6 j cap6) j (rowsOf spotCells (S.rs.take j))) := ⟨own_move HV6.out (fun i hi => HI.out.block i (own_lt HV6.out i hi))⟩
          have HB7 : Aside0 (Below w3.heap.size w3 wr) := ⟨below_then HB6.out HB6.out.size HI.out⟩
          have HSb7 := Aside0.mk (blk_below HSb6.out HI.out)
          have HNb7 := Aside0.mk (blk_below HNb6.out HI.out)
          have htk : rowsOf spotCells (S.rs.take (j + 1)) = rowsOf spotCells (S.rs.take j) ++ [.int .i64 x.ch, .int .i64 x.frm, .int .i64 x.tt] := by
            rw [take_snoc S.rs j x HX.out, rowsOf_app, rowsOf_single]
            rfl
          have HTK := Lib.hid htk
          have hd0 : (x.tt : Int) - (x.frm : Int) = ((x.tt - x.frm : Nat) : Int) := by omega
          obtain ⟨d, hdd⟩ : ∃ d, d = x.tt - x.frm := ⟨_, rfl⟩
          rw [← hdd] at hd0 HCo
          have hdl : d ≤ 100000 := by omega
          have hdw : IntKind.i64.wrap ((x.tt : Int) - (x.frm : Int)) = (d : Int) := by rw [hd0]; exact IntWalk.i64_in _ ⟨by omega, by omega⟩
          clear htk HSb6 HNb6 HV6 HI hdd
          have HNX : Aside0 (∀ w7, (wr.alloc (.cells #[.int .i64 x.ch, .int .i64 x.frm, .int .i64 x.tt] 80)).grownBy w7 (Value.slice A6 j cap6).ownBlock → Below w3.heap.size w3 w7 ∧ w7.heap[sb]? = some (.cells #[.int .i64 x.ch, .int .i64 x.frm, .int .i64 x.tt] 80) ∧ w7.heap[nb]? = some (.cells #[.int .i64 x.no] 3) ∧ w7.cell? ⟨nb, 0, none⟩ = some (.int .i64 x.no)) := ⟨fun w7 hg => by
            have hN7 : w7.heap[nb]? = some (.cells #[.int .i64 x.no] 3) := blk_grown (blk_alloc HNb7.out _) hg (fun e => by have := (HA6.out nb e.symm).2; omega)
            exact ⟨pw_below_grown (below_alloc HB7.out _) _ (by have := HB7.out.size; rw [alloc_size]; omega) hg (fun i hi => (HA6.out i hi).1), blk_grown (blk_alloc HSb7.out _) hg (fun e => by have := (HA6.out sb e.symm).2; omega), hN7, by rw [blk_cell hN7]; rfl⟩⟩
          go_wp2_with (at_builtin; refine wpList_append_own _ rfl (.tmp 90) (.tmp 92) 90 rfl w3.heap.size 80 isp (.agg #[.int .i64 0, .int .i64 0, .int .i64 0]) 3 24 Try.underlying90 hisp sz0 sz1 sz2 rfl (by decide) (.slice A6 j cap6) j (rowsOf spotCells (S.rs.take j)) rfl (by repeat (first | exact HV7.out | apply World.ownsRow.alloc | apply World.ownsRow.drew)) ⟨wr.heap.size, 0, none⟩ 1 1 [.int .i64 x.ch, .int .i64 x.frm, .int .i64 x.tt] rfl rfl (three_src (by exact blk_new wr _)) (by simp [Value.oneCell']) (by simp only [maxLen]; omega) (by omega) (by have := HB7.out.size; rw [alloc_size]; omega) ?_; intro v' w7 ho hg _; obtain ⟨hB7, hS7, hN7, hn7⟩ := HNX.out _ hg; have HO7 := Aside0.mk ho; have HS8 := Aside0.mk (And.intro hB7 (And.intro hS7 hN7)); clear ho hg hB7 hS7 hN7)
          clear s0 s1 s2 HV7 HB7 HSb7 HNb7 hls HNX
          refine (HCo.out _ (below_then HB3.out HB3.out.size HS8.out.1)).mono ?_
          rintro e w8 ⟨B, bcap, rfl, hbc, hrd, hb8⟩
          obtain ⟨s0, s1, s2⟩ := cells3 (blk_below HS8.out.2.1 hb8)
          have hn8 := blk_below HS8.out.2.2 hb8
          have hno8 : w8.cell? ⟨nb, 0, none⟩ = some (.int .i64 x.no) := by rw [blk_cell hn8]; rfl
          have hB8 := below_then HS8.out.1 HS8.out.1.size hb8
          have hcb8 : w8.cell? ⟨w.heap.size, 0, none⟩ = some (.map (some mb)) := by rw [blk_cell (blk_below HCb3.out hB8)]; rfl
          have hm8 : IntMap w8 mb l := HM.out.of_heap ((below_then HB3.out HB3.out.size hB8).block mb HM.out.lt)
          have HAll := Aside0.mk (allV (cb := w.heap.size) (nb := nb) (mb := mb) B d bcap w8 hcb8 hno8 hm8 HVG.out hrd hdl)
          have HB8 := Aside0.mk hB8
          have HO8 : Aside0 (w8.ownsRow w3.heap.size 80 3 v' (j + 1) (rowsOf spotCells (S.rs.take (j + 1)))) := ⟨by
            rw [HTK.out]
            exact own_move HO7.out (fun i hi => hb8.block i (own_lt HO7.out i hi))⟩
          clear hbc hrd hb8 hn8 hno8 hB8 hcb8 hm8 HS8 HO7 hn7
          go_wp2_with (go_at_call 15; refine HAll.out.mono ?_; rintro e w9 ⟨rfl, m9, rfl⟩)
          go_roundw
          case rel => exact ⟨j + 1, by omega, by go_num, ⟨own_frame' HO8.out⟩, ⟨pw_below_drewN HB8.out _⟩⟩
          case measure => simp [intOf]; omega
    · obtain rfl : n = N := by omega
      go_wp2_with fail
      go_ret
      exact ⟨rfl, below_then HB3.out HB3.out.size HB.out⟩
end Go.Proofs.Yticbjaclnneaoaa.Arena
