/- Queues: which chunks stay, how far they are read; in plain lists. -/
import Derived.Test.YtmellidlnggldaaQueue
namespace Go.Proofs.Ytmellidlnggldaa.Ring
set_option linter.unusedVariables false
open Go.RowKit Go.Proofs.YtmellidlnggldaaW.PrintWords Go.Proofs.YtmellidlnggldaaW.PrintLast Go.Proofs.YtmellidlnggldaaW.PrintMore Go.Proofs.Ytmellidlnggldaa.Book Go.Proofs.Ytmellidlnggldaa.Oct Go.Proofs.Ytmellidlnggldaa.Pure
set_option linter.unusedSimpArgs false

/-- The chunks that stay, among the first k. -/
def kp (cs : List Chk) : Nat → List Chk
  | 0 => []
  | k + 1 => match cs[k]? with
    | none => kp cs k
    | some c => if c.frm = c.tt ∧ (c.tt = c.ys.length ∨ k + 1 < cs.length) then kp cs k else kp cs k ++ [c]
theorem kp_succ {cs : List Chk} {k : Nat} {c : Chk} (h : cs[k]? = some c) : kp cs (k + 1) = if c.frm = c.tt ∧ (c.tt = c.ys.length ∨ k + 1 < cs.length) then kp cs k else kp cs k ++ [c] := by
  show (match cs[k]? with | none => kp cs k | some c => _) = _
  rw [h]
theorem kp_sub (cs : List Chk) : ∀ k, k ≤ cs.length → (kp cs k).Sublist (cs.take k) := by
  intro k
  induction k with
  | zero => intro _; simp [kp]
  | succ k ih =>
    intro hk
    have hc := List.getElem?_eq_getElem (show k < cs.length by omega)
    rw [kp_succ hc, take_snoc cs k _ hc]
    split
    · exact (ih (by omega)).trans (List.sublist_append_left _ _)
    · exact (ih (by omega)).append (List.Sublist.refl _)
theorem kp_out (cs : List Chk) : ∀ k, k ≤ cs.length → qout (kp cs k) = qout (cs.take k) := by
  intro k
  induction k with
  | zero => intro _; simp [kp]
  | succ k ih =>
    intro hk
    have hc := List.getElem?_eq_getElem (show k < cs.length by omega)
    rw [kp_succ hc, qout_take cs k _ hc]
    split
    · rename_i h
      rw [ih (by omega)]
      have : (cs[k]'(by omega)).out = [] := by unfold Chk.out; rw [h.1]; simp
      rw [this, List.append_nil]
    · rw [qout_app, ih (by omega)]
      simp [qout]
theorem kp_mem {cs : List Chk} {k : Nat} (hk : k ≤ cs.length) {c : Chk} (h : c ∈ kp cs k) : c ∈ cs := List.mem_of_mem_take ((kp_sub cs k hk).subset h)
theorem kp_len (cs : List Chk) (k : Nat) (hk : k ≤ cs.length) : (kp cs k).length ≤ k := by
  have := (kp_sub cs k hk).length_le
  rw [List.length_take] at this
  omega
theorem room_sub {xs zs : List Chk} (h : xs.Sublist zs) : qroom xs ≤ qroom zs := by
  induction h with
  | slnil => exact Nat.le_refl _
  | cons a _ ih => simp only [qroom, List.map_cons, List.sum_cons] at ih ⊢; omega
  | cons_cons a _ ih => simp only [qroom, List.map_cons, List.sum_cons] at ih ⊢; omega
/-- How many octets of room are given back, among the first k chunks. -/
def gn (cs : List Chk) (k : Nat) : Nat := qroom (cs.take k) - qroom (kp cs k)
theorem gn_succ {cs : List Chk} {k : Nat} (hk : k < cs.length) {c : Chk} (hc : cs[k]? = some c) : gn cs (k + 1) = if c.frm = c.tt ∧ (c.tt = c.ys.length ∨ k + 1 < cs.length) then gn cs k + c.ys.length else gn cs k := by
  have h1 := room_sub (kp_sub cs k (by omega))
  unfold gn
  rw [kp_succ hc, qroom_take cs k c hc]
  split
  · omega
  · rw [qroom_app]
    have : qroom [c] = c.ys.length := by simp [qroom]
    omega
theorem gn_room (cs : List Chk) : gn cs cs.length + qroom (kp cs cs.length) = qroom cs := by
  have h1 := room_sub (kp_sub cs cs.length (Nat.le_refl _))
  unfold gn
  rw [List.take_length] at h1 ⊢
  omega
theorem gn_le (cs : List Chk) (k : Nat) : gn cs k ≤ qroom cs := by
  have := qroom_le cs k
  unfold gn; omega

/-- A chunk behind a pull of n octets that has come to it. -/
def advd (n : Nat) (cs : List Chk) (i : Nat) (c : Chk) : Chk := { c with frm := c.frm + min (n - (qout (cs.take i)).length) (c.tt - c.frm) }
/-- The chunks, of which the first k are read as far as the pull reads. -/
def adv (n : Nat) (cs : List Chk) : Nat → List Chk
  | 0 => cs
  | k + 1 => match cs[k]? with
    | none => adv n cs k
    | some c => (adv n cs k).set k (advd n cs k c)
theorem adv_succ {n : Nat} {cs : List Chk} {k : Nat} {c : Chk} (h : cs[k]? = some c) : adv n cs (k + 1) = (adv n cs k).set k (advd n cs k c) := by
  show (match cs[k]? with | none => adv n cs k | some c => _) = _
  rw [h]
theorem adv_length (n : Nat) (cs : List Chk) (k : Nat) : (adv n cs k).length = cs.length := by
  induction k with
  | zero => rfl
  | succ k ih =>
    show (match cs[k]? with | none => adv n cs k | some c => (adv n cs k).set k (advd n cs k c)).length = _
    split
    · exact ih
    · rw [List.length_set]; exact ih
theorem adv_get (n : Nat) (cs : List Chk) (k : Nat) (hk : k ≤ cs.length) (j : Nat) : (adv n cs k)[j]? = if j < k then (cs[j]?).map (advd n cs j) else cs[j]? := by
  induction k with
  | zero => simp [adv]
  | succ k ih =>
    have hc := List.getElem?_eq_getElem (show k < cs.length by omega)
    have hl := adv_length n cs k
    rw [adv_succ hc, List.getElem?_set]
    by_cases hj : k = j
    · subst hj
      rw [if_pos rfl, if_pos (by omega), if_pos (by omega), hc]
      rfl
    · rw [if_neg hj, ih (by omega)]
      by_cases h2 : j < k
      · rw [if_pos h2, if_pos (by omega)]
      · rw [if_neg h2, if_neg (by omega)]
theorem adv_mem {n : Nat} {cs : List Chk} {k : Nat} (hk : k ≤ cs.length) {c' : Chk} (h : c' ∈ adv n cs k) : ∃ c ∈ cs, c'.g = c.g ∧ c'.ys = c.ys ∧ c'.tt = c.tt ∧ c.frm ≤ c'.frm ∧ c'.frm ≤ c.frm + (c.tt - c.frm) := by
  obtain ⟨j, hj⟩ := List.getElem?_of_mem h
  rw [adv_get n cs k hk j] at hj
  split at hj
  · obtain ⟨c, hc, rfl⟩ := Option.map_eq_some_iff.1 hj
    refine ⟨c, List.mem_of_getElem? hc, rfl, rfl, rfl, ?_, ?_⟩ <;> simp only [advd] <;> omega
  · exact ⟨c', List.mem_of_getElem? hj, rfl, rfl, rfl, Nat.le_refl _, by omega⟩
theorem adv_map (n : Nat) (cs : List Chk) (k : Nat) (hk : k ≤ cs.length) : (adv n cs k).map (·.g) = cs.map (·.g) := by
  apply List.ext_getElem?
  intro j
  rw [List.getElem?_map, List.getElem?_map, adv_get n cs k hk j]
  split
  · cases cs[j]? <;> rfl
  · rfl
theorem adv_room (n : Nat) (cs : List Chk) (k : Nat) (hk : k ≤ cs.length) : qroom (adv n cs k) = qroom cs := by
  unfold qroom
  congr 1
  apply List.ext_getElem?
  intro j
  rw [List.getElem?_map, List.getElem?_map, adv_get n cs k hk j]
  split
  · cases cs[j]? <;> rfl
  · rfl
theorem advd_out (n : Nat) (cs : List Chk) (i : Nat) (c : Chk) (h : c.frm ≤ c.tt) : (advd n cs i c).out = c.out.drop (n - (qout (cs.take i)).length) := by
  unfold Chk.out advd
  simp only
  generalize n - (qout (cs.take i)).length = d
  by_cases hd : d ≤ c.tt - c.frm
  · have e : min d (c.tt - c.frm) = d := by omega
    rw [e, List.drop_take, List.drop_drop]
    congr 1
    omega
  · have e : c.tt - (c.frm + min d (c.tt - c.frm)) = 0 := by omega
    rw [e, List.take_zero]
    symm
    apply List.drop_eq_nil_of_le
    rw [List.length_take]
    omega
theorem adv_out (n : Nat) (cs : List Chk) (hf : ∀ c ∈ cs, c.frm ≤ c.tt) : ∀ k, k ≤ cs.length → qout ((adv n cs k).take k) = (qout (cs.take k)).drop n := by
  intro k
  induction k with
  | zero => intro _; simp [qout]
  | succ k ih =>
    intro hk
    have hc := List.getElem?_eq_getElem (show k < cs.length by omega)
    have hl := adv_length n cs k
    have e1 : (adv n cs (k + 1)).take (k + 1) = (adv n cs k).take k ++ [advd n cs k (cs[k]'(by omega))] := by
      rw [take_snoc (adv n cs (k + 1)) k (advd n cs k (cs[k]'(by omega)))]
      · rw [adv_succ hc, List.take_set_of_le (Nat.le_refl _)]
      · rw [adv_get n cs (k + 1) hk k, if_pos (by omega), hc]; rfl
    rw [e1, qout_app, ih (by omega), qout_take cs k _ hc, List.drop_append]
    congr 1
    have : qout [advd n cs k (cs[k]'(by omega))] = (advd n cs k (cs[k]'(by omega))).out := by simp [qout]
    rw [this, advd_out n cs k _ (hf _ (List.getElem_mem _))]
theorem adv_all (n : Nat) (cs : List Chk) (hf : ∀ c ∈ cs, c.frm ≤ c.tt) : qout (adv n cs cs.length) = (qout cs).drop n := by
  have := adv_out n cs hf cs.length (Nat.le_refl _)
  rw [List.take_length] at this
  have h2 : (adv n cs cs.length).take cs.length = adv n cs cs.length := List.take_of_length_le (by rw [adv_length]; exact Nat.le_refl _)
  rw [h2] at this
  exact this
/-- What has come out behind one chunk more. -/
theorem out_step (n : Nat) (cs : List Chk) (k : Nat) (c : Chk) (hc : cs[k]? = some c) : (qout (cs.take (k + 1))).take n = (qout (cs.take k)).take n ++ (c.ys.drop c.frm).take (min (n - (qout (cs.take k)).length) (c.tt - c.frm)) := by
  rw [qout_take cs k c hc, List.take_append]
  congr 1
  unfold Chk.out
  rw [List.take_take]
theorem qcells_set (cs : List Chk) (k i : Nat) (c c' : Chk) (v : Value) (hc : cs[k]? = some c) (hi : i < 3) (h : c'.cells = c.cells.set i v) : qcells (cs.set k c') = (qcells cs).set (k * 3 + i) v := by
  induction cs generalizing k with
  | nil => simp at hc
  | cons a l ih =>
    have e : ∀ (b : Chk) (m : List Chk), qcells (b :: m) = b.cells ++ qcells m := fun _ _ => rfl
    have e3 : a.cells.length = 3 := rfl
    cases k with
    | zero =>
      have : a = c := by simpa using hc
      subst this
      rw [List.set_cons_zero, e, e, h, Nat.zero_mul, Nat.zero_add, List.set_append_left _ _ (by omega)]
    | succ k =>
      rw [List.set_cons_succ, e, e, ih k (by simpa using hc), List.set_append_right _ _ (by omega), e3]
      congr 2
      omega
theorem qcells_adv {n : Nat} {cs : List Chk} {k : Nat} {c : Chk} (hk : k < cs.length) (hc : cs[k]? = some c) : qcells (adv n cs (k + 1)) = (qcells (adv n cs k)).set (k * 3 + 1) (.int .i64 ((advd n cs k c).frm : Nat)) := by
  rw [adv_succ hc]
  refine qcells_set (adv n cs k) k 1 c _ _ ?_ (by decide) rfl
  rw [adv_get n cs k (by omega) k, if_neg (by omega)]
  exact hc
end Go.Proofs.Ytmellidlnggldaa.Ring
