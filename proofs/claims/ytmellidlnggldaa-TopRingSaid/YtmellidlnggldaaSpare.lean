/- Queues: the last chunk is filled up. -/
import Derived.Test.YtmellidlnggldaaPushRel
namespace Go.Proofs.Ytmellidlnggldaa.Ring
set_option linter.unusedVariables false
open Go.RowKit Go.Proofs.YtmellidlnggldaaW.PrintWords Go.Proofs.YtmellidlnggldaaW.PrintLast Go.Proofs.YtmellidlnggldaaW.PrintMore Go.Proofs.Ytmellidlnggldaa.Book Go.Proofs.Ytmellidlnggldaa.Oct Go.Proofs.Ytmellidlnggldaa.Pure
set_option linter.unusedSimpArgs false

/-- A chunk with octets more. -/
def fillChk (c : Chk) (O : List Int) : Chk := { c with tt := c.tt + O.length, ys := c.ys.take c.tt ++ O ++ c.ys.drop (c.tt + O.length) }
theorem fill_len (c : Chk) (O : List Int) (h : c.tt + O.length ≤ c.ys.length) : (fillChk c O).ys.length = c.ys.length := by
  simp only [fillChk, List.length_append, List.length_take, List.length_drop]
  omega
theorem fill_out (c : Chk) (O : List Int) (h : c.tt + O.length ≤ c.ys.length) (hf : c.frm ≤ c.tt) : (fillChk c O).out = c.out ++ O := by
  unfold Chk.out fillChk
  simp only
  have l1 : (c.ys.take c.tt).length = c.tt := by rw [List.length_take]; omega
  have l2 : c.tt + O.length - c.frm = (c.tt - c.frm) + O.length := by omega
  rw [List.append_assoc, List.drop_append, l1]
  have e0 : c.frm - c.tt = 0 := by omega
  rw [e0, List.drop_zero, List.drop_take, l2]
  have l3 : ((c.ys.drop c.frm).take (c.tt - c.frm)).length = c.tt - c.frm := by rw [List.length_take, List.length_drop]; omega
  rw [List.take_append, l3, Nat.add_sub_cancel_left]
  congr 1
  · rw [List.take_of_length_le (by rw [l3]; omega)]
  · rw [List.take_append, Nat.sub_self, List.take_zero, List.append_nil, List.take_of_length_le (Nat.le_refl _)]
theorem set_last {α : Type} (l : List α) (K : Nat) (c d : α) (hK : K + 1 = l.length) (hc : l[K]? = some c) : l = l.take K ++ [c] ∧ l.set K d = l.take K ++ [d] := by
  have h1 : l = l.take K ++ [c] := by
    have := List.take_add_one (l := l) (i := K)
    rw [hc, hK, List.take_length] at this
    exact this
  refine ⟨h1, ?_⟩
  have hl : (l.take K).length = K := by rw [List.length_take]; omega
  conv => lhs; rw [h1]
  rw [List.set_append_right _ _ (by omega), hl, Nat.sub_self]
  rfl

theorem spare_done {w w1 w' : World} {qa p : Nat} {o k s m size : Int} {g cap : Nat} {cs : List Chk} (hQ : QueueAt w qa p o k s m size (.slice (some ⟨g, 0, none⟩) cs.length cap) cs) {K : Nat} {c : Chk} (hK : K + 1 = cs.length) (hc : cs[K]? = some c) (O : List Int) (hO : c.tt + O.length ≤ c.ys.length) (hl : (qout cs).length + O.length ≤ 100000)
    (hrow : Row w1 c.g (c.ys.take c.tt ++ O ++ c.ys.drop (c.tt + O.length))) (hu : Upd (fun j => j = c.g) w w1) (he : w' = w1.setCell ⟨g, K * 3 + 2, none⟩ (.int .i64 ((c.tt + O.length : Nat) : Int))) :
    ∃ cs1, QueueAt w' qa p o k s m size (.slice (some ⟨g, 0, none⟩) cs1.length cap) cs1 ∧ cs1.length = cs.length ∧ qout cs1 = qout cs ++ O ∧ qroom cs1 = qroom cs ∧ cs1.map (·.g) = cs.map (·.g) ∧ Upd (QFoot qa (.slice (some ⟨g, 0, none⟩) cs.length cap) cs) w w' := by
  have hcm := List.mem_of_getElem? hc
  obtain ⟨f1, f2, f3⟩ := hQ.fits c hcm
  obtain ⟨s1, s2⟩ := set_last cs K c (fillChk c O) hK hc
  have hlen : (cs.set K (fillChk c O)).length = cs.length := List.length_set
  have hgv : some g = (Value.slice (some ⟨g, 0, none⟩) cs.length cap).ownBlock := rfl
  have hgq : g < w.heap.size := hQ.lt (.inr (.inl hgv))
  have hcg : c.g ≠ g := fun e => hQ.row_ne hcm (by rw [e]; rfl)
  have hqg : qa ≠ g := fun e => hQ.head_ne (by rw [e]; rfl)
  have hqc : qa ≠ c.g := fun e => by
    have h1 := hQ.rows c hcm
    unfold Row at h1
    rw [← e, hQ.head] at h1
    unfold queueCells at h1
    injection h1 with h1
    injection h1 with _ h1 _
    exact absurd h1 (by decide)
  have hU : Upd (fun j => j = c.g ∨ j = g) w w' := by
    rw [he]
    exact Upd.setCell (S := fun j => j = c.g ∨ j = g) (hu.mono (fun j hj => .inl hj)) ⟨g, K * 3 + 2, none⟩ (.inl (.inr rfl)) _
  have hgmap : (cs.set K (fillChk c O)).map (·.g) = cs.map (·.g) := by
    rw [s2]
    conv => rhs; rw [s1]
    simp [fillChk]
  refine ⟨cs.set K (fillChk c O), ⟨?_, ?_, ?_, ?_, ?_, ?_, by rw [hlen]; exact hQ.few, ?_⟩, hlen, ?_, ?_, hgmap, hU.mono (fun j hj => ?_)⟩
  · rw [hlen]
    exact (hU.block qa (hQ.lt (.inl rfl)) (fun e => e.elim hqc hqg)).trans hQ.head
  · have h1 : w1.ownsRow 0 73 3 (.slice (some ⟨g, 0, none⟩) cs.length cap) cs.length (qcells cs) := own_frame hQ.own (fun j hj => hu.block j (own_lt' hQ.own hj) (fun e => hQ.row_ne hcm (by rw [← e]; exact hj)))
    have hv : (fillChk c O).cells = c.cells.set 2 (.int .i64 ((c.tt + O.length : Nat) : Int)) := by
      unfold Chk.cells
      rw [fill_len c O hO]
      rfl
    rw [hlen, qcells_set cs K 2 c (fillChk c O) _ hc (by decide) hv, he]
    exact (h1.stored (K * 3 + 2) _).1
  · intro d hd
    rw [s2] at hd
    rcases List.mem_append.1 hd with hd | hd
    · have hdc : d ∈ cs := List.mem_of_mem_take hd
      refine (hU.block d.g (hQ.lt (.inr (.inr (List.mem_map_of_mem hdc)))) (fun e => ?_)).trans (hQ.rows d hdc)
      rcases e with e | e
      · have hn := hQ.apart
        rw [s1, List.map_append, List.nodup_append] at hn
        exact hn.2.2 d.g (List.mem_map_of_mem hd) c.g (by simp) e
      · exact hQ.row_ne hdc (by rw [e]; rfl)
    · obtain rfl := List.mem_singleton.1 hd
      show Row w' c.g _
      rw [he]
      exact hrow.far ⟨g, K * 3 + 2, none⟩ hcg _
  · intro d hd
    rw [s2] at hd
    rcases List.mem_append.1 hd with hd | hd
    · exact hQ.fits d (List.mem_of_mem_take hd)
    · obtain rfl := List.mem_singleton.1 hd
      rw [fill_len c O hO]
      exact ⟨by simp only [fillChk]; omega, hO, f3⟩
  · intro d hd
    rw [s2] at hd
    rcases List.mem_append.1 hd with hd | hd
    · exact hQ.same d (List.mem_of_mem_take hd)
    · obtain rfl := List.mem_singleton.1 hd
      rw [fill_len c O hO]
      exact hQ.same c hcm
  · rw [hgmap]; exact hQ.apart
  · have : qout (cs.set K (fillChk c O)) = qout cs ++ O := by
      rw [s2]
      conv => rhs; rw [s1]
      rw [qout_app, qout_app, List.append_assoc]
      congr 1
      simp only [qout, List.map_cons, List.map_nil, List.flatten_cons, List.flatten_nil, List.append_nil]
      exact fill_out c O hO f1
    rw [this, List.length_append]
    exact hl
  · rw [s2]
    conv => rhs; rw [s1]
    rw [qout_app, qout_app, List.append_assoc]
    congr 1
    simp only [qout, List.map_cons, List.map_nil, List.flatten_cons, List.flatten_nil, List.append_nil]
    exact fill_out c O hO f1
  · rw [s2]
    conv => rhs; rw [s1]
    rw [qroom_app, qroom_app]
    congr 1
    simp only [qroom, List.map_cons, List.map_nil, List.sum_cons, List.sum_nil]
    rw [fill_len c O hO]
  · rcases hj with rfl | rfl
    · exact .inr (.inr (List.mem_map_of_mem hcm))
    · exact .inr (.inl hgv)
end Go.Proofs.Ytmellidlnggldaa.Ring
