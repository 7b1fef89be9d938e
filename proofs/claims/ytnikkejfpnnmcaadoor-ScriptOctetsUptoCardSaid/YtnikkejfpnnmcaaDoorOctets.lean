/- script.Octets and its parts: what they read. -/
import Derived.Test.YtnikkejfpnnmcaaDoorQuote
import Derived.Deep.QuietTactic
import Derived.BigQuiet
import Derived.IntWalk
namespace Go.Proofs.YtnikkejfpnnmcaaDoor.Quo
open Go.RowKit Go.Proofs.YtnikkejfpnnmcaaDoorW.PrintWords Go.Proofs.YtnikkejfpnnmcaaDoorW.PrintLast Go.Proofs.YtnikkejfpnnmcaaDoorW.PrintMore Go.Proofs.YtnikkejfpnnmcaaDoor.Bld

/-- The place behind the quote that ends octets; none: -1. -/
def qEnd : List UInt8 → Nat → Int
  | [], _ => -1
  | [c], i => if c = 92 then -1 else if c = 34 then (i : Int) + 1 else -1
  | c :: d :: l, i => if c = 92 then qEnd l (i + 2) else if c = 34 then (i : Int) + 1 else qEnd (d :: l) (i + 1)

theorem qEnd_nil (i : Nat) : qEnd [] i = -1 := rfl
theorem qEnd_esc (l : List UInt8) (i : Nat) : qEnd (92 :: l) i = qEnd (l.drop 1) (i + 2) := by
  cases l with
  | nil => rfl
  | cons d l => simp [qEnd]
theorem qEnd_quote (l : List UInt8) (i : Nat) : qEnd (34 :: l) i = (i : Int) + 1 := by
  cases l <;> simp [qEnd]
theorem qEnd_other (c : UInt8) (l : List UInt8) (i : Nat) (h1 : c ≠ 92) (h2 : c ≠ 34) : qEnd (c :: l) i = qEnd l (i + 1) := by
  cases l <;> simp [qEnd, h1, h2]

theorem str_at (s : ByteArray) (i : Nat) (h : i < s.size) : s.data.toList.drop i = s[i] :: s.data.toList.drop (i + 1) := by
  rw [List.drop_eq_getElem_cons (by simpa using h)]; rfl

set_option maxHeartbeats 2000000 in
set_option maxRecDepth 100000 in
theorem quotedEnd (s : ByteArray) (w : World) (hs : s.size ≤ 1000000000) :
    Calls Tryd.prog 27 #[.string s] w fun e w' => e = .returned (.int .i64 (qEnd (s.data.toList.drop 1) 1)) ∧ w = w' := by
  generalize hE : qEnd (s.data.toList.drop 1) 1 = E
  have HE := Aside0.mk hE.symm
  clear hE
  go_enter Tryd.func27, Tryd.ntmps27
  go_wp2
  go_loop [3] (fun i => ∃ k : Nat, 1 ≤ k ∧ k ≤ s.size + 1 ∧ i = .int .i64 k ∧ Aside0 (E = qEnd (s.data.toList.drop k) k)) (fun i => s.size + 1 - (intOf i).toNat)
  case atStart => exact ⟨1, by omega, by omega, rfl, HE⟩
  case round =>
    obtain ⟨k, hk1, hk2, rfl, HK⟩ := hrel
    by_cases hlt : k < s.size
    · have hd := str_at s k hlt
      have h256 : (s[k].toNat : Int) < 256 := by have := UInt8.toNat_lt s[k]; omega
      by_cases h92 : s[k] = 92
      · have e92 : ((s[k].toNat : Int) == 92) = true := by rw [h92]; rfl
        have hn : E = qEnd (s.data.toList.drop (k + 2)) (k + 2) := by rw [HK.out, hd, h92, qEnd_esc, List.drop_drop]
        have HN := Aside0.mk hn
        clear hn hd h92
        go_wp2
        go_round
        case rel => exact ⟨k + 2, by omega, by omega, by go_num, HN⟩
        case measure => simp [intOf]; omega
      · have e92 : ((s[k].toNat : Int) == 92) = false := by
          rw [beq_eq_false_iff_ne]; intro e; exact h92 (UInt8.toNat_inj.1 (by have : (92 : UInt8).toNat = 92 := rfl; omega))
        by_cases h34 : s[k] = 34
        · have e34 : ((s[k].toNat : Int) == 34) = true := by rw [h34]; rfl
          have hn : E = (k : Int) + 1 := by rw [HK.out, hd, h34, qEnd_quote]
          have HN := Lib.hid hn
          clear hn hd h34 h92
          go_wp2
          go_ret
          exact ⟨by rw [HN.out]; rfl, rfl⟩
        · have e34 : ((s[k].toNat : Int) == 34) = false := by
            rw [beq_eq_false_iff_ne]; intro e; exact h34 (UInt8.toNat_inj.1 (by have : (34 : UInt8).toNat = 34 := rfl; omega))
          have hn : E = qEnd (s.data.toList.drop (k + 1)) (k + 1) := by rw [HK.out, hd, qEnd_other _ _ _ h92 h34]
          have HN := Aside0.mk hn
          clear hn hd h34 h92
          go_wp2
          go_round
          case rel => exact ⟨k + 1, by omega, by omega, by go_num, HN⟩
          case measure => simp [intOf]; omega
    · have hn : E = -1 := by
        rw [HK.out, List.drop_of_length_le (by simp; omega)]; rfl
      have HN := Lib.hid hn
      clear hn
      go_wp2
      go_ret
      exact ⟨by rw [HN.out]; rfl, rfl⟩

/-- The digits. -/
def hexL : List UInt8 := [48, 49, 50, 51, 52, 53, 54, 55, 56, 57, 97, 98, 99, 100, 101, 102]
def hexv (h l : UInt8) : Int := bits BinOp.or IntKind.i64 (wrap64 (Lib.indexByte hexL h * 16)) (Lib.indexByte hexL l) % 256
/-- What unquote reads, in at most so many steps. -/
def unqF : Nat → List UInt8 → List Int
  | n + 1, c :: d :: t => if c ≠ 92 then (c.toNat : Int) :: unqF n (d :: t) else if d ≠ 120 ∨ t.length ≤ 1 then (d.toNat : Int) :: unqF n t else hexv (t.getD 0 0) (t.getD 1 0) :: unqF n (t.drop 2)
  | _, _ => []
def unq (t : List UInt8) : List Int := unqF t.length t
theorem unqF_same : ∀ (n m : Nat) (t : List UInt8), t.length ≤ n → t.length ≤ m → unqF n t = unqF m t
  | 0, m, t, hn, _ => by
    obtain rfl : t = [] := List.length_eq_zero_iff.1 (by omega)
    cases m <;> rfl
  | n + 1, 0, t, _, hm => by
    obtain rfl : t = [] := List.length_eq_zero_iff.1 (by omega)
    rfl
  | n + 1, m + 1, t, hn, hm => by
    rcases t with _ | ⟨c, _ | ⟨d, t⟩⟩
    · rfl
    · rfl
    · simp only [List.length_cons] at hn hm
      unfold unqF
      rw [unqF_same n m (d :: t) (by simp; omega) (by simp; omega), unqF_same n m t (by omega) (by omega), unqF_same n m (t.drop 2) (by simp; omega) (by simp; omega)]
theorem unq_plain (c : UInt8) (t : List UInt8) (h : c ≠ 92) (ht : t ≠ []) : unq (c :: t) = (c.toNat : Int) :: unq t := by
  cases t with
  | nil => exact absurd rfl ht
  | cons d t => unfold unq; simp only [List.length_cons]; rw [unqF, if_pos h]
theorem unq_esc (d : UInt8) (t : List UInt8) (h : d ≠ 120 ∨ t.length ≤ 1) : unq (92 :: d :: t) = (d.toNat : Int) :: unq t := by
  unfold unq
  simp only [List.length_cons]
  rw [unqF, if_neg (by simp), if_pos h, unqF_same (t.length + 1) t.length t (by omega) (by omega)]
theorem unq_hex (h l : UInt8) (t : List UInt8) : unq (92 :: 120 :: h :: l :: t) = hexv h l :: unq t := by
  unfold unq
  simp only [List.length_cons]
  rw [unqF, if_neg (by simp), if_neg (by simp)]
  simp only [List.getD_cons_zero, List.getD_cons_succ, List.drop_succ_cons, List.drop_zero]
  rw [unqF_same _ t.length t (by omega) (by omega)]
theorem unq_end (t : List UInt8) (h : t.length ≤ 1) : unq t = [] := by
  rcases t with _ | ⟨a, _ | ⟨b, t⟩⟩
  · rfl
  · rfl
  · simp at h

theorem infoU : (Tryd.prog.info? 5).map (fun i => (i.zero, i.size, i.bytes)) = some (some (.int .u8 0), 1, 1) := by kernel_rfl

set_option maxHeartbeats 4000000 in
set_option maxRecDepth 100000 in
theorem unquote (s : ByteArray) (w : World) (hs : s.size ≤ 1000000000) :
    Calls Tryd.prog 28 #[.string s] w fun e w' => ∃ v, e = .returned v ∧ Kd.R (Kd.int .u8) 5 w' w.heap.size (fun _ => True) v (unq (s.data.toList.drop 1)) ∧ Below w.heap.size w w' := by
  generalize hE : unq (s.data.toList.drop 1) = E
  have HE := Aside0.mk hE.symm
  clear hE
  go_enter Tryd.func28, Tryd.ntmps28
  go_wp2
  go_loopw [3, 4, 5, 6] (fun v i _ _ wr => ∃ (k : Nat) (out : List Int), 1 ≤ k ∧ k ≤ s.size + 1 ∧ i = .int .i64 k ∧ out.length ≤ k ∧ Aside0 (E = out ++ unq (s.data.toList.drop k)) ∧ Aside0 (Kd.R (Kd.int .u8) 5 wr w.heap.size (fun _ => True) v out) ∧ Aside0 (Below w.heap.size w wr)) (fun _ i _ _ _ => s.size + 1 - (intOf i).toNat)
  case atStart => exact ⟨1, [], by omega, by omega, rfl, by simp, ⟨by rw [HE.out]; rfl⟩, ⟨Kd.R_nil _ _ _ _ _⟩, ⟨Below.refl _ _⟩⟩
  case round =>
    obtain ⟨k, out, hk1, hk2, rfl, hol, HK, HR, HB⟩ := hrel
    by_cases hlt : k + 1 < s.size
    · have hd := str_at s k (by omega)
      have hd2 := str_at s (k + 1) hlt
      have h256 : (s[k].toNat : Int) < 256 := by have := UInt8.toNat_lt s[k]; omega
      have hlt' : (k : Int) < (s.size : Int) - 1 := by omega
      by_cases h92 : s[k] = 92
      · have e92 : ((s[k].toNat : Int) != 92) = false := by rw [h92]; rfl
        by_cases hx : s[k + 1] = 120 ∧ k + 3 < s.size
        · have e120 : ((s[k + 1].toNat : Int) != 120) = false := by rw [hx.1]; rfl
          have hl3 : (k : Int) + 1 + 2 < (s.size : Int) := by omega
          have g1 : IntKind.i64.wrap ((k : Int) + 1 + 1) = (k : Int) + 1 + 1 := IntWalk.i64_in _ (by omega)
          have g2 : IntKind.i64.wrap ((k : Int) + 1 + 2) = (k : Int) + 1 + 2 := IntWalk.i64_in _ (by omega)
          have g3 : ((k : Int) + 1 + 1).toNat = k + 2 := by omega
          have g4 : ((k : Int) + 1 + 2).toNat = k + 3 := by omega
          have g5 : (k : Int) + 1 + 1 < (s.size : Int) := by omega
          have g6 : (0 : Int) ≤ (k : Int) + 1 + 1 := by omega
          have g7 : (0 : Int) ≤ (k : Int) + 1 + 2 := by omega
          have hz2 : k + 2 < s.size := by omega
          have hz3 : k + 3 < s.size := hx.2
          have hn : E = (out ++ [hexv s[k + 2] s[k + 3]]) ++ unq (s.data.toList.drop (k + 4)) := by
            rw [HK.out, hd, hd2, str_at s (k + 2) hz2, str_at s (k + 3) hz3, h92, hx.1, unq_hex]; simp
          have HN := Aside0.mk hn
          clear HK hd hd2 h92 hx hn
          go_wp2_with fail
          go_quiet ((go_at_call 42; exact Calls.quiet_of_same (Tryd.strings_IndexByte _ _ _)))
          go_wp2_with (first | ((with_reducible refine gate_builtin (b := .append) (xs := #[.tmp 53, .tmp 59]) rfl ?_); at_builtin; refine Kd.R_append (Kd.int .u8) (w0 := w) w.heap.size rfl (.tmp 53) (.tmp 59) 33 5 (.int .u8 0) 1 rfl Tryd.underlying33 infoU rfl (by decide) (by omega) _ out (hexv s[k + 2] s[k + 3]) [.int .u8 (hexv s[k + 2] s[k + 3])] (fun _ => True) (fun _ => False) rfl rfl ?aP (fun _ hk => hk.elim) ?aF ?aO ?aB ?aS ?aL ?_; (case aP => exact rfl); (case aB => exact (by repeat (first | (with_reducible first | exact HB.out | apply below_alloc | apply pw_below_drewN | apply below_drew1) | exact HB.out))); (case aF => exact (fun _ _ => trivial)); (case aO => exact (by (with_reducible repeat (first | apply Kd.R_alloc | apply Kd.R_drewN | apply Kd.R_drew)); exact HR.out)); (case aS => exact (below_size (by repeat (first | (with_reducible first | exact HB.out | apply below_alloc | apply pw_below_drewN | apply below_drew1) | exact HB.out)))); (case aL => omega); intro v1 w1 ho hb hg hat; have HO1 := Aside0.mk ho; have HB1 := Aside0.mk hb; clear ho hb hg hat))
          go_wp2
          go_roundw
          case rel => exact ⟨k + 4, out ++ [hexv s[k + 2] s[k + 3]], by omega, by omega, by go_num, by simp; omega, HN, HO1, HB1⟩
          case measure => simp [intOf]; omega
        · have hor : s[k + 1] ≠ 120 ∨ ¬ k + 3 < s.size := by
            by_cases h : s[k + 1] = 120
            · exact .inr (fun h3 => hx ⟨h, h3⟩)
            · exact .inl h
          have hn : E = (out ++ [(s[k + 1].toNat : Int)]) ++ unq (s.data.toList.drop (k + 2)) := by
            rw [HK.out, hd, hd2, h92, unq_esc]
            · simp
            · rcases hor with h | h
              · exact .inl h
              · right; simp; omega
          have HN := Aside0.mk hn
          have h256b : (s[k + 1].toNat : Int) < 256 := by have := UInt8.toNat_lt s[k + 1]; omega
          clear HK hd hd2 h92 hx hn
          rcases hor with h | h
          · have e120 : ((s[k + 1].toNat : Int) != 120) = true := by
              rw [bne_iff_ne]; intro e; exact h (UInt8.toNat_inj.1 (by have : (120 : UInt8).toNat = 120 := rfl; omega))
            clear h
            go_wp2_with (first | ((with_reducible refine gate_builtin (b := .append) (xs := #[.tmp 37, .tmp 41]) rfl ?_); at_builtin; refine Kd.R_append (Kd.int .u8) (w0 := w) w.heap.size rfl (.tmp 37) (.tmp 41) 33 5 (.int .u8 0) 1 rfl Tryd.underlying33 infoU rfl (by decide) (by omega) _ out ((s[k + 1].toNat : Int)) [.int .u8 ((s[k + 1].toNat : Int))] (fun _ => True) (fun _ => False) rfl rfl ?aP (fun _ hk => hk.elim) ?aF ?aO ?aB ?aS ?aL ?_; (case aP => exact rfl); (case aB => exact (by repeat (first | (with_reducible first | exact HB.out | apply below_alloc | apply pw_below_drewN | apply below_drew1) | exact HB.out))); (case aF => exact (fun _ _ => trivial)); (case aO => exact (by (with_reducible repeat (first | apply Kd.R_alloc | apply Kd.R_drewN | apply Kd.R_drew)); exact HR.out)); (case aS => exact (below_size (by repeat (first | (with_reducible first | exact HB.out | apply below_alloc | apply pw_below_drewN | apply below_drew1) | exact HB.out)))); (case aL => omega); intro v1 w1 ho hb hg hat; have HO1 := Aside0.mk ho; have HB1 := Aside0.mk hb; clear ho hb hg hat))
            go_wp2
            go_roundw
            case rel => exact ⟨k + 2, out ++ [(s[k + 1].toNat : Int)], by omega, by omega, by go_num, by simp; omega, HN, HO1, HB1⟩
            case measure => simp [intOf]; omega
          · by_cases h120 : s[k + 1] = 120
            · have e120 : ((s[k + 1].toNat : Int) != 120) = false := by rw [h120]; rfl
              have hge : (s.size : Int) ≤ (k : Int) + 1 + 2 := by omega
              clear h h120
              go_wp2_with (first | ((with_reducible refine gate_builtin (b := .append) (xs := #[.tmp 37, .tmp 41]) rfl ?_); at_builtin; refine Kd.R_append (Kd.int .u8) (w0 := w) w.heap.size rfl (.tmp 37) (.tmp 41) 33 5 (.int .u8 0) 1 rfl Tryd.underlying33 infoU rfl (by decide) (by omega) _ out ((s[k + 1].toNat : Int)) [.int .u8 ((s[k + 1].toNat : Int))] (fun _ => True) (fun _ => False) rfl rfl ?aP (fun _ hk => hk.elim) ?aF ?aO ?aB ?aS ?aL ?_; (case aP => exact rfl); (case aB => exact (by repeat (first | (with_reducible first | exact HB.out | apply below_alloc | apply pw_below_drewN | apply below_drew1) | exact HB.out))); (case aF => exact (fun _ _ => trivial)); (case aO => exact (by (with_reducible repeat (first | apply Kd.R_alloc | apply Kd.R_drewN | apply Kd.R_drew)); exact HR.out)); (case aS => exact (below_size (by repeat (first | (with_reducible first | exact HB.out | apply below_alloc | apply pw_below_drewN | apply below_drew1) | exact HB.out)))); (case aL => omega); intro v1 w1 ho hb hg hat; have HO1 := Aside0.mk ho; have HB1 := Aside0.mk hb; clear ho hb hg hat))
              go_wp2
              go_roundw
              case rel => exact ⟨k + 2, out ++ [(s[k + 1].toNat : Int)], by omega, by omega, by go_num, by simp; omega, HN, HO1, HB1⟩
              case measure => simp [intOf]; omega
            · have e120 : ((s[k + 1].toNat : Int) != 120) = true := by
                rw [bne_iff_ne]; intro e; exact h120 (UInt8.toNat_inj.1 (by have : (120 : UInt8).toNat = 120 := rfl; omega))
              clear h h120
              go_wp2_with (first | ((with_reducible refine gate_builtin (b := .append) (xs := #[.tmp 37, .tmp 41]) rfl ?_); at_builtin; refine Kd.R_append (Kd.int .u8) (w0 := w) w.heap.size rfl (.tmp 37) (.tmp 41) 33 5 (.int .u8 0) 1 rfl Tryd.underlying33 infoU rfl (by decide) (by omega) _ out ((s[k + 1].toNat : Int)) [.int .u8 ((s[k + 1].toNat : Int))] (fun _ => True) (fun _ => False) rfl rfl ?aP (fun _ hk => hk.elim) ?aF ?aO ?aB ?aS ?aL ?_; (case aP => exact rfl); (case aB => exact (by repeat (first | (with_reducible first | exact HB.out | apply below_alloc | apply pw_below_drewN | apply below_drew1) | exact HB.out))); (case aF => exact (fun _ _ => trivial)); (case aO => exact (by (with_reducible repeat (first | apply Kd.R_alloc | apply Kd.R_drewN | apply Kd.R_drew)); exact HR.out)); (case aS => exact (below_size (by repeat (first | (with_reducible first | exact HB.out | apply below_alloc | apply pw_below_drewN | apply below_drew1) | exact HB.out)))); (case aL => omega); intro v1 w1 ho hb hg hat; have HO1 := Aside0.mk ho; have HB1 := Aside0.mk hb; clear ho hb hg hat))
              go_wp2
              go_roundw
              case rel => exact ⟨k + 2, out ++ [(s[k + 1].toNat : Int)], by omega, by omega, by go_num, by simp; omega, HN, HO1, HB1⟩
              case measure => simp [intOf]; omega
      · have e92 : ((s[k].toNat : Int) != 92) = true := by
          rw [bne_iff_ne]; intro e; exact h92 (UInt8.toNat_inj.1 (by have : (92 : UInt8).toNat = 92 := rfl; omega))
        have hn : E = (out ++ [(s[k].toNat : Int)]) ++ unq (s.data.toList.drop (k + 1)) := by
          rw [HK.out, hd, unq_plain _ _ h92 (by rw [hd2]; simp)]; simp
        have HN := Aside0.mk hn
        clear HK hd hd2 h92 hn
        go_wp2_with (first | ((with_reducible refine gate_builtin (b := .append) (xs := #[.tmp 18, .tmp 22]) rfl ?_); at_builtin; refine Kd.R_append (Kd.int .u8) (w0 := w) w.heap.size rfl (.tmp 18) (.tmp 22) 33 5 (.int .u8 0) 1 rfl Tryd.underlying33 infoU rfl (by decide) (by omega) _ out ((s[k].toNat : Int)) [.int .u8 ((s[k].toNat : Int))] (fun _ => True) (fun _ => False) rfl rfl ?aP (fun _ hk => hk.elim) ?aF ?aO ?aB ?aS ?aL ?_; (case aP => exact rfl); (case aB => exact (by repeat (first | (with_reducible first | exact HB.out | apply below_alloc | apply pw_below_drewN | apply below_drew1) | exact HB.out))); (case aF => exact (fun _ _ => trivial)); (case aO => exact (by (with_reducible repeat (first | apply Kd.R_alloc | apply Kd.R_drewN | apply Kd.R_drew)); exact HR.out)); (case aS => exact (below_size (by repeat (first | (with_reducible first | exact HB.out | apply below_alloc | apply pw_below_drewN | apply below_drew1) | exact HB.out)))); (case aL => omega); intro v1 w1 ho hb hg hat; have HO1 := Aside0.mk ho; have HB1 := Aside0.mk hb; clear ho hb hg hat))
        go_wp2
        go_roundw
        case rel => exact ⟨k + 1, out ++ [(s[k].toNat : Int)], by omega, by omega, by go_num, by simp; omega, HN, HO1, HB1⟩
        case measure => simp [intOf]; omega
    · have hn : E = out := by rw [HK.out, unq_end _ (by simp; omega)]; simp
      have HN := Lib.hid hn
      have hge : (s.size : Int) - 1 ≤ (k : Int) := by omega
      clear hn
      go_wp2
      go_ret
      exact ⟨_, rfl, by rw [HN.out]; exact HR.out, HB.out⟩
end Go.Proofs.YtnikkejfpnnmcaaDoor.Quo
