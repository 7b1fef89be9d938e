/- Cells.Add: a pair more. -/
import Derived.Test.YtancgipidbojkaaCells
import Derived.Deep.DrawnRows
import Derived.Deep.DeepCutAuto
namespace Go.Proofs.Ytancgipidbojkaa.Twin
open Go.RowKit Go.Proofs.YtancgipidbojkaaW.PrintWords Go.Proofs.YtancgipidbojkaaW.PrintLast Go.Proofs.YtancgipidbojkaaW.PrintMore Go.Proofs.Ytancgipidbojkaa.Book
set_option linter.unusedSimpArgs false
attribute [local go_sem ↓] Go.wp_at_zero Go.wp_at_succ

/-- Rows of octets stay. -/
def Octets (w w' : World) : Prop := ∀ (g : Nat) (cs : Array Value), w.heap[g]? = some (.cells cs 5) → w'.heap[g]? = w.heap[g]?

theorem infoS : (Try.prog.info? 28).map (fun i => (i.zero, i.size, i.bytes)) = some (some (.slice none 0 0), 1, 24) := by kernel_rfl

theorem ownsRow_grown {w w' : World} {base e size n : Nat} {v : Value} {xs : List Value} {row : Option Nat} (h : w.ownsRow base e size v n xs) (hg : w.grownBy w' row) (hne : ∀ g, v.ownBlock = some g → some g ≠ row) : w'.ownsRow base e size v n xs := by
  obtain ⟨hl, h | ⟨g, c, cur, rfl, h1, h2, h3⟩⟩ := h
  · exact ⟨hl, .inl h⟩
  · exact ⟨hl, .inr ⟨g, c, cur, rfl, h1, blk_grown h2 hg (hne g rfl), h3⟩⟩
theorem ownsRow_zero {w : World} {base e size n : Nat} {v : Value} {xs : List Value} (h : w.ownsRow base e size v n xs) : w.ownsRow 0 e size v n xs := by
  obtain ⟨hl, h | ⟨g, c, cur, rfl, h1, h2, h3⟩⟩ := h
  · exact ⟨hl, .inl h⟩
  · exact ⟨hl, .inr ⟨g, c, cur, rfl, Nat.zero_le _, h2, h3⟩⟩
theorem ownsRow_base {w : World} {base e size n g c : Nat} {xs : List Value} (h : w.ownsRow 0 e size (.slice (some ⟨g, 0, none⟩) n c) n xs) (hb : base ≤ g) : w.ownsRow base e size (.slice (some ⟨g, 0, none⟩) n c) n xs := by
  obtain ⟨hl, ⟨h, _⟩ | ⟨g', c', cur, hv, h1, h2, h3⟩⟩ := h
  · cases h
  · obtain ⟨rfl, rfl⟩ : g = g' ∧ c = c' := by simpa using hv
    exact ⟨hl, .inr ⟨g, c, cur, rfl, hb, h2, h3⟩⟩

theorem two_first (w : World) (X Y : Obj) : ((w.alloc X).alloc Y).heap[w.heap.size]? = some X := (Below.heap_alloc _ Y _ (by rw [alloc_size]; omega)).trans (blk_new w X)

theorem old_block {w W : World} {B g : Nat} {o : Obj} (hb : Below B w W) (h : w.heap[g]? = some o) (hB : g < B) : W.heap[g]? = some o := (hb.block g hB).trans h
theorem own_lt {w : World} {base e size n g : Nat} {v : Value} {xs : List Value} (h : w.ownsRow base e size v n xs) (hg : v.ownBlock = some g) : base ≤ g ∧ ∃ cur, w.heap[g]? = some (.cells cur e) := by
  obtain ⟨hl, ⟨rfl, _⟩ | ⟨g', c, cur, rfl, h1, h2, h3⟩⟩ := h
  · simp [Value.ownBlock] at hg
  · obtain rfl : g' = g := by simpa [Value.ownBlock] using hg
    exact ⟨h1, cur, h2⟩

/-- What one append to a row leaves: all the rest. -/
structure Step (w W w1 : World) (base e n : Nat) (v : Value) (g cap : Nat) (xs : List Value) : Prop where
  own : w1.ownsRow base e 1 (.slice (some ⟨g, 0, none⟩) n cap) n xs
  grown : W.grownBy w1 v.ownBlock
  at_ : some g = v.ownBlock ∨ W.heap.size ≤ g
  below : Below base w w1
  wide : W.heap.size ≤ w1.heap.size

theorem step_of {w W w1 : World} {base e n m : Nat} {v : Value} {g cap : Nat} {xs zs : List Value} (hv : w.ownsRow base e 1 v m zs) (hbase : base ≤ w.heap.size) (hb : Below base w W) (hw : w.heap.size ≤ W.heap.size)
    (ho : w1.ownsRow 0 e 1 (.slice (some ⟨g, 0, none⟩) n cap) n xs) (hg : W.grownBy w1 v.ownBlock) (hat : some g = v.ownBlock ∨ W.heap.size ≤ g) : Step w W w1 base e n v g cap xs := by
  refine ⟨ownsRow_base ho ?_, hg, hat, pw_below_grown hb _ (by omega) hg (fun k hk => (own_lt hv hk).1), hg.size⟩
  rcases hat with h | h
  · exact (own_lt hv h.symm).1
  · omega

theorem box_step {w W w1 : World} {base e n : Nat} {v : Value} {g cap p : Nat} {xs : List Value} {cs : Array Value} {t : TypeId} (h : Step w W w1 base e n v g cap xs) (hb : W.heap[p]? = some (.cells cs t)) (hne : some p ≠ v.ownBlock) : w1.heap[p]? = some (.cells cs t) := blk_grown hb h.grown hne

theorem Oct.keep {w w' : World} {base : Nat} {A : Option Addr} {cap : Nat} {xs : List Int} (h : Oct w base A cap xs) (hk : ∀ (g : Nat) (cs : Array Value), w.heap[g]? = some (.cells cs 5) → w'.heap[g]? = w.heap[g]?) : Oct w' base A cap xs := by
  refine ⟨⟨h.reads.1, h.reads.2.1, fun h0 => ?_⟩, fun h0 => ?_⟩
  · obtain ⟨g, o, cs, e, _, hb⟩ := h.lies h0
    obtain ⟨ad, e', hc⟩ := h.reads.2.2 h0
    rw [e] at e'
    obtain rfl := Option.some.inj e'
    refine ⟨_, e, fun j hj => ?_⟩
    rw [← hc j hj]
    have hbl : ((⟨g, o, none⟩ : Addr).add j).block = g := by cases j <;> simp [Addr.add]
    have := hk g cs hb
    simp only [World.cell?, hbl, this]
  · obtain ⟨g, o, cs, e, hg, hb⟩ := h.lies h0
    exact ⟨g, o, cs, e, hg, (hk g cs hb).trans hb⟩
theorem Twins.keep {w w' : World} {base : Nat} {L : List Pair} (h : Twins w base L) (hk : ∀ (g : Nat) (cs : Array Value), w.heap[g]? = some (.cells cs 5) → w'.heap[g]? = w.heap[g]?) : Twins w' base L :=
  ⟨h.fits, fun p hp => by obtain ⟨xs, h1, h2⟩ := h.shows p hp; exact ⟨xs, h1.keep hk, h2.keep hk⟩, h.apart, h.alike⟩

theorem add_done {w W1 w1 W2 w2 : World} {base p g1 g2 c1 c2 : Nat} {L : List Pair} {P : Pair} {OA WA : Option Addr} {oc wc : Nat} (h : CellsAt w base p L OA WA oc wc) (htw : Twins w base (L ++ [P]))
    (hW1 : Below w.heap.size w W1) (s1 : Step w W1 w1 base 28 (L.length + 1) (.slice OA L.length oc) g1 c1 (L.map Pair.own ++ [P.own]))
    (hW2 : Below w1.heap.size w1 W2) (s2 : Step w W2 w2 base 28 (L.length + 1) (.slice WA L.length wc) g2 c2 (L.map Pair.want ++ [P.want])) :
    CellsAt ((w2.setCell ⟨p, 0, none⟩ (.slice (some ⟨g1, 0, none⟩) (L.length + 1) c1)).setCell ⟨p, 1, none⟩ (.slice (some ⟨g2, 0, none⟩) (L.length + 1) c2)) base p (L ++ [P]) (some ⟨g1, 0, none⟩) (some ⟨g2, 0, none⟩) c1 c2 ∧
      Below base w ((w2.setCell ⟨p, 0, none⟩ (.slice (some ⟨g1, 0, none⟩) (L.length + 1) c1)).setCell ⟨p, 1, none⟩ (.slice (some ⟨g2, 0, none⟩) (L.length + 1) c2)) ∧
      Octets w ((w2.setCell ⟨p, 0, none⟩ (.slice (some ⟨g1, 0, none⟩) (L.length + 1) c1)).setCell ⟨p, 1, none⟩ (.slice (some ⟨g2, 0, none⟩) (L.length + 1) c2)) := by
  have hp := blk_lt h.box
  have n1 : some p ≠ (Value.slice OA L.length oc).ownBlock := fun e => by
    obtain ⟨_, cur, hc⟩ := own_lt h.own e.symm
    rw [h.box] at hc; simp at hc
  have n2 : some p ≠ (Value.slice WA L.length wc).ownBlock := fun e => by
    obtain ⟨_, cur, hc⟩ := own_lt h.want e.symm
    rw [h.box] at hc; simp at hc
  have hs1 := hW1.size
  have hs2 := s1.wide
  have hs3 := hW2.size
  have b1 := box_step s1 (old_block hW1 h.box hp) n1
  have b2 := box_step s2 (old_block hW2 b1 (by omega)) n2
  have hw1 : g1 < w1.heap.size := by obtain ⟨_, cur, hc⟩ := own_lt s1.own rfl; exact blk_lt hc
  have hg12 : g1 ≠ g2 := by
    intro e
    rcases s2.at_ with h2 | h2
    · obtain ⟨_, cur, hc⟩ := own_lt h.want h2.symm
      have := blk_lt hc
      rcases s1.at_ with h1 | h1
      · rcases h.parted with hp | hp
        · exact hp (by rw [← h1, ← h2, e])
        · rw [hp] at h1; simp [Value.ownBlock] at h1
      · omega
    · omega
  have p1 : p ≠ g1 := fun e => by
    obtain ⟨_, cur, hc⟩ := own_lt s1.own rfl
    rw [← e, b1] at hc; simp at hc
  have p2 : p ≠ g2 := fun e => by
    obtain ⟨_, cur, hc⟩ := own_lt s2.own rfl
    rw [← e, b2] at hc; simp at hc
  have o1 : w2.ownsRow base 28 1 (.slice (some ⟨g1, 0, none⟩) (L.length + 1) c1) (L.length + 1) (L.map Pair.own ++ [P.own]) := by
    refine ownsRow_grown (ownsRow_below s1.own hW2) s2.grown ?_
    intro g hg e
    obtain rfl : g1 = g := by simpa [Value.ownBlock] using hg
    obtain ⟨_, cur, hc⟩ := own_lt h.want e.symm
    have := blk_lt hc
    rcases s1.at_ with h1 | h1
    · rcases h.parted with hp | hp
      · exact hp (by rw [← h1, e])
      · rw [hp] at h1; simp [Value.ownBlock] at h1
    · omega
  have hk : ∀ (g : Nat) (cs : Array Value), w.heap[g]? = some (.cells cs 5) → ((w2.setCell ⟨p, 0, none⟩ (.slice (some ⟨g1, 0, none⟩) (L.length + 1) c1)).setCell ⟨p, 1, none⟩ (.slice (some ⟨g2, 0, none⟩) (L.length + 1) c2)).heap[g]? = w.heap[g]? := by
    intro g cs hg
    have hlt := blk_lt hg
    have e1 : some g ≠ (Value.slice OA L.length oc).ownBlock := fun e => by
      obtain ⟨_, cur, hc⟩ := own_lt h.own e.symm
      rw [hg] at hc; simp at hc
    have e2 : some g ≠ (Value.slice WA L.length wc).ownBlock := fun e => by
      obtain ⟨_, cur, hc⟩ := own_lt h.want e.symm
      rw [hg] at hc; simp at hc
    have e3 : g ≠ p := fun e => by rw [e, h.box] at hg; simp at hg
    have q1 := blk_grown (old_block hW1 hg hlt) s1.grown e1
    have q2 := blk_grown (old_block hW2 q1 (by omega)) s2.grown e2
    rw [hg]
    exact blk_far (blk_far q2 e3 _) e3 _
  refine ⟨⟨?_, ?_, ?_, htw.keep hk, h.young, .inl ?_⟩, ?_, hk⟩
  · have e := blk_set (blk_set b2 0 (.slice (some ⟨g1, 0, none⟩) (L.length + 1) c1)) 1 (.slice (some ⟨g2, 0, none⟩) (L.length + 1) c2)
    rw [e]
    simp
  · rw [List.length_append, List.map_append]
    exact own_setCell (own_setCell o1 (by simpa [Value.ownBlock] using p1) _) (by simpa [Value.ownBlock] using p1) _
  · rw [List.length_append, List.map_append]
    exact own_setCell (own_setCell s2.own (by simpa [Value.ownBlock] using p2) _) (by simpa [Value.ownBlock] using p2) _
  · simpa [Value.ownBlock] using hg12
  · exact (s2.below.setCell (p := ⟨p, 0, none⟩) h.young _).setCell (p := ⟨p, 1, none⟩) h.young _

theorem below_of_drewN {w w3 : World} (h : ∃ m, w3 = w.drewN m) : Below w.heap.size w w3 := by obtain ⟨m, rfl⟩ := h; exact pw_below_drewN (Below.refl _ _) m
theorem Octets.below {w w1 w2 : World} (h : Octets w w1) (hb : Below w1.heap.size w1 w2) : Octets w w2 := fun g cs hg => by
  have e := h g cs hg
  rw [hb.block g (blk_lt (e.trans hg)), e]
theorem Octets.of_below {w w1 : World} (hb : Below w.heap.size w w1) : Octets w w1 := fun g _ hg => hb.block g (blk_lt hg)
theorem Octets.trans {w w1 w2 : World} (h : Octets w w1) (h2 : Octets w1 w2) : Octets w w2 := fun g cs hg => by
  have e := h g cs hg
  rw [h2 g cs (e.trans hg), e]

/-- What the first append leaves. -/
structure One (w W w1 : World) (base p : Nat) (L : List Pair) (OA WA : Option Addr) (oc wc g1 c1 : Nat) (xs : List Value) : Prop where
  st : Step w W w1 base 28 (L.length + 1) (.slice OA L.length oc) g1 c1 xs
  hW : Below w.heap.size w W
  box : w1.heap[p]? = some (.cells #[.slice OA L.length oc, .slice WA L.length wc] 31)
  new : ∀ (g : Nat) (o : Obj), W.heap[g]? = some o → w.heap.size ≤ g → w1.heap[g]? = some o
  other : w1.ownsRow 0 28 1 (.slice WA L.length wc) L.length (L.map Pair.want)

theorem one_of {w W w1 : World} {base p g1 c1 : Nat} {L : List Pair} {OA WA : Option Addr} {oc wc : Nat} {xs : List Value} (h : CellsAt w base p L OA WA oc wc) (hbase : base ≤ w.heap.size) (hW : Below w.heap.size w W)
    (ho : w1.ownsRow 0 28 1 (.slice (some ⟨g1, 0, none⟩) (L.length + 1) c1) (L.length + 1) xs) (hg : W.grownBy w1 (Value.slice OA L.length oc).ownBlock) (hat : some g1 = (Value.slice OA L.length oc).ownBlock ∨ W.heap.size ≤ g1) :
    One w W w1 base p L OA WA oc wc g1 c1 xs := by
  have n1 : some p ≠ (Value.slice OA L.length oc).ownBlock := fun e => by
    obtain ⟨_, cur, hc⟩ := own_lt h.own e.symm
    rw [h.box] at hc; simp at hc
  have s := step_of h.own hbase (hW.mono hbase) hW.size ho hg hat
  refine ⟨s, hW, box_step s (old_block hW h.box (blk_lt h.box)) n1, fun g o hh hle => blk_grown hh hg (fun e => ?_), ownsRow_grown (ownsRow_below (ownsRow_zero h.want) hW) hg (fun g hh e => ?_)⟩
  · obtain ⟨_, cur, hc⟩ := own_lt h.own e.symm
    have := blk_lt hc
    omega
  · rcases h.parted with hp | hp
    · exact hp (by rw [← e, hh])
    · rw [hp] at e; simp [Value.ownBlock] at e

structure Two (w w2 : World) (base p : Nat) (L : List Pair) (P : Pair) (OA WA : Option Addr) (oc wc g1 c1 g2 c2 : Nat) : Prop where
  cells : CellsAt ((w2.setCell ⟨p, 0, none⟩ (.slice (some ⟨g1, 0, none⟩) (L.length + 1) c1)).setCell ⟨p, 1, none⟩ (.slice (some ⟨g2, 0, none⟩) (L.length + 1) c2)) base p (L ++ [P]) (some ⟨g1, 0, none⟩) (some ⟨g2, 0, none⟩) c1 c2
  below : Below base w ((w2.setCell ⟨p, 0, none⟩ (.slice (some ⟨g1, 0, none⟩) (L.length + 1) c1)).setCell ⟨p, 1, none⟩ (.slice (some ⟨g2, 0, none⟩) (L.length + 1) c2))
  keep : Octets w ((w2.setCell ⟨p, 0, none⟩ (.slice (some ⟨g1, 0, none⟩) (L.length + 1) c1)).setCell ⟨p, 1, none⟩ (.slice (some ⟨g2, 0, none⟩) (L.length + 1) c2))
  box : w2.heap[p]? = some (.cells #[.slice OA L.length oc, .slice WA L.length wc] 31)

theorem two_of {w W1 w1 W2 w2 : World} {base p g1 c1 g2 c2 : Nat} {L : List Pair} {P : Pair} {OA WA : Option Addr} {oc wc : Nat} (h : CellsAt w base p L OA WA oc wc) (htw : Twins w base (L ++ [P])) (hbase : base ≤ w.heap.size)
    (h1 : One w W1 w1 base p L OA WA oc wc g1 c1 (L.map Pair.own ++ [P.own])) (hW : Below w1.heap.size w1 W2)
    (ho : w2.ownsRow 0 28 1 (.slice (some ⟨g2, 0, none⟩) (L.length + 1) c2) (L.length + 1) (L.map Pair.want ++ [P.want])) (hg : W2.grownBy w2 (Value.slice WA L.length wc).ownBlock) (hat : some g2 = (Value.slice WA L.length wc).ownBlock ∨ W2.heap.size ≤ g2) :
    Two w w2 base p L P OA WA oc wc g1 c1 g2 c2 := by
  have n2 : some p ≠ (Value.slice WA L.length wc).ownBlock := fun e => by
    obtain ⟨_, cur, hc⟩ := own_lt h.want e.symm
    rw [h.box] at hc; simp at hc
  have q1 := h1.hW.size
  have q2 := h1.st.wide
  have q3 := hW.size
  have s := step_of h.want hbase (below_then h1.st.below (by omega) hW) (by omega) ho hg hat
  have hd := add_done h htw h1.hW h1.st hW s
  exact ⟨hd.1, hd.2.1, hd.2.2, box_step s (old_block hW h1.box (blk_lt h1.box)) n2⟩

set_option maxHeartbeats 4000000 in
set_option maxRecDepth 100000 in
theorem add (p : Nat) (L : List Pair) (base : Nat) (OA WA : Option Addr) (oc wc : Nat) (w : World) (h : CellsAt w base p L OA WA oc wc) (hL : L.length ≤ 1000) (hbase : base ≤ w.heap.size)
    (A B : Option Addr) (n cap : Nat) (htw : Twins w base (L ++ [⟨A, B, n, cap⟩])) (hcap : ∀ P ∈ L ++ [⟨A, B, n, cap⟩], P.cap ≤ 4611686018427387904) :
    Calls Try.prog 19 #[.pointer (some ⟨p, 0, none⟩), .slice A n cap, .slice B n cap] w fun e w' => e = .returned (.bool true) ∧ (∃ g1 g2 c1 c2, CellsAt w' base p (L ++ [⟨A, B, n, cap⟩]) (some ⟨g1, 0, none⟩) (some ⟨g2, 0, none⟩) c1 c2) ∧ Below base w w' ∧ Octets w w' := by
  have hf0 := h.f0
  have hf1 := h.f1
  have hpl0 := blk_lt h.box
  have hfit : n ≤ cap := htw.fits ⟨A, B, n, cap⟩ (by simp)
  have H := Aside0.mk h
  have HT := Aside0.mk htw
  have HC := Lib.hid hcap
  have HO1 := Aside0.mk (ownsRow_zero h.own)
  clear h htw hcap
  go_enter Try.func19, Try.ntmps19
  go_upto_region 3 with fail
  go_cut [] (fun wx => ∃ g1 g2 c1 c2, Aside0 (CellsAt wx base p (L ++ [⟨A, B, n, cap⟩]) (some ⟨g1, 0, none⟩) (some ⟨g2, 0, none⟩) c1 c2) ∧ Aside0 (Below base w wx) ∧ Aside0 (Octets w wx))
  case first =>
    go_region_law (first | (refine step_append_own rfl (.tmp 24) (.tmp 31) 29 rfl 28 _ 1 24 Try.underlying29 infoS rfl (by decide) (by decide) (.slice OA L.length oc) L.length (L.map Pair.own) [.slice A n cap] (by simp [Act.eval]) _ (by simp [Act.eval]; rfl) rfl (by simp [Value.oneCell']) (by first | exact blk_new _ _ | exact two_new _ _ _ | exact two_first _ _ _) (by repeat (first | exact HO1.out | apply World.ownsRow.drew | apply World.ownsRow.alloc)) (by omega) ?_; intro g1 cap1 w1 ho1 hgr1 hat1; have HP1 := Aside0.mk (one_of H.out hbase (by repeat (first | exact Below.refl _ _ | apply below_alloc | apply below_drew)) ho1 hgr1 hat1); have hx1 : w1.cell? ⟨p, 1, none⟩ = some (.slice WA L.length wc) := (by rw [blk_cell HP1.out.box]; rfl); have hpl1 := blk_lt HP1.out.box; clear ho1 hgr1 hat1) | (refine step_append_own rfl (.tmp 36) (.tmp 43) 29 rfl 28 _ 1 24 Try.underlying29 infoS rfl (by decide) (by decide) (.slice WA L.length wc) L.length (L.map Pair.want) [.slice B n cap] (by simp [Act.eval]) _ (by simp [Act.eval]; rfl) rfl (by simp [Value.oneCell']) (by first | exact blk_new _ _ | exact HP1.out.new _ _ (by first | exact blk_new _ _ | exact two_new _ _ _ | exact two_first _ _ _) (by first | exact Nat.le_refl _ | exact Nat.le_succ _ | omega)) (by repeat (first | exact HP1.out.other | apply World.ownsRow.drew | apply World.ownsRow.alloc)) (by omega) ?_; intro g2 cap2 w2 ho2 hgr2 hat2; have HP2 := Aside0.mk (two_of H.out HT.out hbase HP1.out (by repeat (first | exact Below.refl _ _ | apply below_alloc | apply below_drew)) ho2 hgr2 hat2); have hd0 : w2.cell? ⟨p, 0, none⟩ = some (.slice OA L.length oc) := (by rw [blk_cell HP2.out.box]; rfl); have hd1 : w2.cell? ⟨p, 1, none⟩ = some (.slice WA L.length wc) := (by rw [blk_cell HP2.out.box]; rfl); have hz0 := blk_frozen HP2.out.box 0; have hz1 := blk_frozen HP2.out.box 1; clear ho2 hgr2 hat2))
    all_goals (go_wp2_with fail; go_meet; exact ⟨g1, g2, cap1, cap2, ⟨HP2.out.cells⟩, ⟨HP2.out.below⟩, ⟨HP2.out.keep⟩⟩)
  case rest =>
    obtain ⟨g1, g2, c1, c2, HCC, HBB, HKK⟩ := hcut
    go_wp2_with fail
    refine (same p _ base _ _ c1 c2 _ HCC.out (by simp; omega) HC.out).mono ?_
    rintro e w3 ⟨rfl, hw3⟩
    have hb3 := below_of_drewN hw3
    have HC3 := Aside0.mk (HCC.out.below hb3)
    have HB3 := Aside0.mk (below_then HBB.out (Nat.le_trans hbase HBB.out.size) hb3)
    have HK3 := Aside0.mk (HKK.out.below hb3)
    clear hw3 hb3
    go_wp2_with fail
    go_ret
    exact ⟨rfl, ⟨g1, g2, c1, c2, HC3.out⟩, HB3.out, HK3.out⟩
end Go.Proofs.Ytancgipidbojkaa.Twin
