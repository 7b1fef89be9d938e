/- The statements on NewHeap and NewRope: what they return is what is specified, for all owners and policies. -/
import Derived.Test.YtancgipidbojkaaBook
import Derived.Test.YtancgipidbojkaaPolicyErr
namespace Go.Proofs.Ytancgipidbojkaa.Made
open Go.RowKit Go.Proofs.YtancgipidbojkaaW.PrintWords Go.Proofs.YtancgipidbojkaaW.PrintLast Go.Proofs.YtancgipidbojkaaW.PrintMore Go.Proofs.Ytancgipidbojkaa.Book Go.Proofs.Ytancgipidbojkaa.Policy

/-- The book that has one account, number 1. -/
def oneBook (limit : Int) : BookS := ⟨10000000, 0, 0, 0, [(1, ⟨limit, 0, 0⟩)], [], [[.int .i64 1, .int .i64 1, .int .i64 0, .int .i64 limit, .int .i64 0, .int .i64 0]]⟩

set_option maxHeartbeats 1000000 in
set_option maxRecDepth 100000 in
theorem book (limit : Int) (h0 : 0 ≤ limit) (h1 : limit ≤ 10000000) (w : World) :
    Calls Try.prog 32 #[.int .i64 limit] w fun e w' => e = .returned (.pointer (some ⟨w.heap.size + 1, 0, none⟩)) ∧
      ∃ q, BookAt w' (w.heap.size + 1) (oneBook limit) q ∧ Below w.heap.size w w' ∧ (∀ k, q.Foot (w.heap.size + 1) k → w.heap.size ≤ k) := by
  have hs : checkS 1 [limit] = 0 := by
    unfold checkS
    rw [if_pos (by decide), if_pos (fun x hx => by rcases List.mem_singleton.1 hx with rfl; exact ⟨h0, h1⟩)]
  have HS := Aside0.mk hs
  clear hs
  go_enter Try.func32, Try.ntmps32
  go_wp2_with (first | (go_at_call 57; refine (newBook 10000000 w (by decide)).mono ?_; rintro e w1 ⟨rfl, hB, hb⟩; have HB := Aside0.mk hB; have Hb := Aside0.mk hb; clear hB hb) | (go_at_call 64; refine (open_ok HB.out 1 limit HS.out rfl (by decide)).mono ?_; rintro e w2 ⟨rfl, q, hB2, hk, hf⟩; have HB2 := Aside0.mk hB2; have HK := Aside0.mk hk; have HF := Aside0.mk hf; clear hB2 hk hf))
  go_ret
  refine ⟨rfl, q, HB2.out, ?_, ?_⟩
  · have hfoot : ∀ k, Parts.Foot (w.heap.size + 1) ⟨w.heap.size, [], .slice none 0 0, .slice none 0 0⟩ k → w.heap.size ≤ k := fun k hk => by
      rcases hk with h | h | h | h | h
      · omega
      · show w.heap.size ≤ k; exact Nat.le_of_eq h.symm
      · simp at h
      · simp [Value.ownBlock] at h
      · simp [Value.ownBlock] at h
    exact Hb.out.trans (HK.out.below Hb.out.size hfoot)
  · intro k hk
    have hsz := Hb.out.size
    rcases HF.out k hk with h | h
    · rcases h with h | h | h | h | h
      · omega
      · exact Nat.le_of_eq h.symm
      · simp at h
      · simp [Value.ownBlock] at h
      · simp [Value.ownBlock] at h
    · omega
end Go.Proofs.Ytancgipidbojkaa.Made
