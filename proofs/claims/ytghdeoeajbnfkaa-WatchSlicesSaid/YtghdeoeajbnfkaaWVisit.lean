/- Groups' visit, where no slice leads anywhere. -/
import Derived.Test.YtghdeoeajbnfkaaWRep
import Derived.Test.YtghdeoeajbnfkaaWFenced
import Derived.Test.YtghdeoeajbnfkaaMapInt
namespace Go.Proofs.Ytghdeoeajbnfkaa.WSl
open Go.RowKit Go.Proofs.YtghdeoeajbnfkaaW.PrintWords Go.Proofs.YtghdeoeajbnfkaaW.PrintLast Go.Proofs.YtghdeoeajbnfkaaW.PrintMore Go.Proofs.Ytghdeoeajbnfkaa.WMem Go.Proofs.Ytghdeoeajbnfkaa.MapInt
set_option linter.unusedSimpArgs false
set_option linter.unusedVariables false

/-- Groups' variables: the row of groups at block g (in the variable at p), the map at r (in the variable at q). -/
structure VMid (w : World) (p q g r n : Nat) (xs : List Int) : Prop where
  len : xs.length = n
  out : ∃ cc, w.cell? ⟨p, 0, none⟩ = some (.slice (some ⟨g, 0, none⟩) n cc)
  leads : w.cell? ⟨q, 0, none⟩ = some (.map (some r))
  map : IntMap w r []
  row : ∀ j, j < n → w.cell? ⟨g, j, none⟩ = some (.int .i64 (xs.getD j 0)) ∧ w.frozen? ⟨g, j, none⟩ = false

set_option maxHeartbeats 4000000 in
set_option maxRecDepth 100000 in
theorem visit0 (p q g r n z at_ : Nat) (least : Int) (xs : List Int) (w : World) (h : VMid w p q g r n xs) (hat : at_ < n) (hn : n ≤ 1000000) (hx : xs.getD at_ 0 = -1) (hpg : p ≠ g) (hqg : q ≠ g) (hrg : r ≠ g) :
    Calls Try.prog 26 #[.int .i64 at_, .int .i64 least, .pointer (some ⟨p, 0, none⟩), .pointer (some ⟨q, 0, none⟩), .pointer (some ⟨z, 0, none⟩)] w fun e w' => e = .returned (.tuple #[]) ∧ w' = w.setCell ⟨g, at_, none⟩ (.int .i64 least) := by
  obtain ⟨cc, c1⟩ := h.out
  have c2 := h.leads
  obtain ⟨c3, f3⟩ := h.row at_ hat
  rw [hx] at c3
  have hm : IntMap (w.setCell ⟨g, at_, none⟩ (.int .i64 least)) r [] := h.map.of_heap (Below.heap_setCell _ _ _ _ hrg)
  have c4 : (w.setCell ⟨g, at_, none⟩ (.int .i64 least)).cell? ⟨q, 0, none⟩ = some (.map (some r)) := (World.cell?_setCell_far _ _ _ _ (show g ≠ q from fun e => hqg e.symm)).trans c2
  have hlk := run_lookup_none (P := Try.prog) (t := 64) Try.underlying64 Try.underlying3 hm (k := (at_ : Int)) rfl (z := .slice none 0 0) (et := 35) (by rfl) false
  have HM := Aside0.mk hm
  clear h hm
  go_enter Try.func26, Try.ntmps26
  go_wp2
  go_loop [8, 22] (fun _ i => i = .int .i64 0) (fun _ _ => 0)
  case atStart => exact rfl
  case round =>
    subst hrel
    go_wp2
    go_end0
    exact ⟨rfl, rfl⟩

end Go.Proofs.Ytghdeoeajbnfkaa.WSl
