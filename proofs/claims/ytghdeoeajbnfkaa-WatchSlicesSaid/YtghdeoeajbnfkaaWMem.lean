/- What a call that writes to slices that came in leaves as it was: a world that differs from another one at cells of a set alone. -/
import Derived.Below
import Derived.Laws.IdiomCopy
namespace Go.Proofs.Ytghdeoeajbnfkaa.WMem
open Go Go.RowKit

/-- w' is as w was, but at the cells that F names. -/
structure Only (F : Nat → Nat → Prop) (w w' : World) : Prop where
  os : w'.os = w.os
  tape : w'.tape = w.tape
  output : w'.output = w.output
  size : w.heap.size ≤ w'.heap.size
  block : ∀ k, k < w.heap.size → w'.heap[k]? = w.heap[k]? ∨ ∃ cs cs' t f, w.heap[k]? = some (.cells cs t f) ∧ w'.heap[k]? = some (.cells cs' t f) ∧ cs'.size = cs.size ∧ ∀ i : Nat, ¬ F k i → cs'[i]? = cs[i]?

variable {F G : Nat → Nat → Prop} {w w1 w2 : World}

theorem Only.refl (w : World) : Only F w w := ⟨rfl, rfl, rfl, Nat.le_refl _, fun _ _ => .inl rfl⟩

theorem Only.mono (h : Only F w w1) (hf : ∀ k i, F k i → G k i) : Only G w w1 :=
  ⟨h.os, h.tape, h.output, h.size, fun k hk => by
    rcases h.block k hk with e | ⟨cs, cs', t, f, e1, e2, e3, e4⟩
    · exact .inl e
    · exact .inr ⟨cs, cs', t, f, e1, e2, e3, fun i hi => e4 i (fun hh => hi (hf k i hh))⟩⟩

theorem Only.trans (h : Only F w w1) (g : Only F w1 w2) : Only F w w2 :=
  ⟨g.os.trans h.os, g.tape.trans h.tape, g.output.trans h.output, Nat.le_trans h.size g.size, fun k hk => by
    rcases h.block k hk with e | ⟨cs, cs', t, f, e1, e2, e3, e4⟩
    · rcases g.block k (Nat.lt_of_lt_of_le hk h.size) with e' | ⟨ds, ds', t', f', d1, d2, d3, d4⟩
      · exact .inl (e'.trans e)
      · exact .inr ⟨ds, ds', t', f', e ▸ d1, d2, d3, d4⟩
    · rcases g.block k (Nat.lt_of_lt_of_le hk h.size) with e' | ⟨ds, ds', t', f', d1, d2, d3, d4⟩
      · exact .inr ⟨cs, cs', t, f, e1, e'.trans e2, e3, e4⟩
      · rw [e2] at d1
        cases d1
        exact .inr ⟨cs, ds', t, f, e1, d2, d3.trans e3, fun i hi => (d4 i hi).trans (e4 i hi)⟩⟩

theorem Only.of_below {B : Nat} (h : Below B w w1) (hB : w.heap.size ≤ B) : Only F w w1 :=
  ⟨h.os, h.tape, h.output, h.size, fun k hk => .inl (h.block k (Nat.lt_of_lt_of_le hk hB))⟩

theorem Only.alloc (h : Only F w w1) (o : Obj) : Only F w (w1.alloc o) := h.trans (Only.of_below ((Below.refl w1.heap.size w1).alloc (Nat.le_refl _) o) (Nat.le_refl _))

theorem Only.drew (h : Only F w w1) : Only F w w1.drew := h.trans (Only.of_below (Below.refl w1.heap.size w1).drew (Nat.le_refl _))

theorem heap_setCell_self (w : World) (a : Addr) (u : Value) (cs : Array Value) (t : TypeId) (f : Nat × Nat) (h : w.heap[a.block]? = some (.cells cs t f)) :
    (w.setCell a u).heap[a.block]? = some (.cells (if a.spot.isSome then cs else cs.setIfInBounds a.off u) t f) := by
  simp [World.setCell, Array.getElem?_modify, h]

/-- A store at a cell of the set, or into a block that is new. -/
theorem Only.setCell (h : Only F w w1) (p : Addr) (u : Value) (hp : F p.block p.off ∨ w.heap.size ≤ p.block) : Only F w (w1.setCell p u) :=
  ⟨h.os, h.tape, h.output, by simpa [World.setCell] using h.size, fun k hk => by
    by_cases hb : k = p.block
    · subst hb
      have hF : F p.block p.off := by
        rcases hp with hp | hp
        · exact hp
        · omega
      have hcell : ∀ (ds : Array Value) (i : Nat), ¬ F p.block i → (if p.spot.isSome then ds else ds.setIfInBounds p.off u)[i]? = ds[i]? := by
        intro ds i hi
        split
        · rfl
        · rw [Array.getElem?_setIfInBounds, if_neg]
          rintro rfl
          exact hi hF
      have hsz : ∀ (ds : Array Value), (if p.spot.isSome then ds else ds.setIfInBounds p.off u).size = ds.size := by
        intro ds
        split <;> simp
      rcases h.block _ hk with e | ⟨cs, cs', t, f, e1, e2, e3, e4⟩
      · cases hq : w1.heap[p.block]? with
        | none => refine .inl ?_; rw [← e, hq]; simp [World.setCell, Array.getElem?_modify, hq]
        | some o =>
          cases o with
          | cells cs t f =>
            exact .inr ⟨cs, _, t, f, e ▸ hq, heap_setCell_self w1 p u cs t f hq, hsz cs, fun i hi => hcell cs i hi⟩
          | _ => refine .inl ?_; rw [← e, hq]; simp [World.setCell, Array.getElem?_modify, hq]
      · exact .inr ⟨cs, _, t, f, e1, heap_setCell_self w1 p u cs' t f e2, (hsz cs').trans e3, fun i hi => (hcell cs' i hi).trans (e4 i hi)⟩
    · rw [Below.heap_setCell w1 p u k hb]
      exact h.block k hk⟩

theorem Only.setCells (b : Nat) : ∀ (vs : List Value) (o : Nat) (w1 : World), Only F w w1 → (∀ j, j < vs.length → F b (o + j) ∨ w.heap.size ≤ b) → Only F w (w1.setCells b o vs)
  | [], _, _, h, _ => h
  | v :: r, o, w1, h, hp => by
    rw [World.setCells]
    refine Only.setCells b r (o + 1) _ (h.setCell ⟨b, o, none⟩ v (by simpa using hp 0 (by simp))) (fun j hj => ?_)
    have := hp (j + 1) (by simp; omega)
    rwa [show o + (j + 1) = o + 1 + j by omega] at this

theorem Only.cell (h : Only F w w1) (p : Addr) (hp : p.block < w.heap.size) (hF : ¬ F p.block p.off) : w1.cell? p = w.cell? p := by
  simp only [World.cell?]
  rcases h.block _ hp with e | ⟨cs, cs', t, f, e1, e2, e3, e4⟩
  · rw [e]
  · rw [e1, e2]
    simp only [e4 _ hF]

theorem Only.isSome (h : Only F w w1) (p : Addr) (hp : (w.cell? p).isSome = true) : (w1.cell? p).isSome = true := by
  have hlt : p.block < w.heap.size := by
    rcases Nat.lt_or_ge p.block w.heap.size with h' | h'
    · exact h'
    · simp [World.cell?, Array.getElem?_eq_none h'] at hp
  simp only [World.cell?] at hp ⊢
  rcases h.block _ hlt with e | ⟨cs, cs', t, f, e1, e2, e3, e4⟩
  · rw [e]; exact hp
  · rw [e1] at hp
    rw [e2]
    simp only at hp ⊢
    split at hp
    · simp at hp
    · next hs =>
      rw [if_neg hs]
      simp only [Option.isSome_iff_exists, Array.getElem?_eq_some_iff] at hp ⊢
      obtain ⟨v, hv, _⟩ := hp
      exact ⟨cs'[p.off]'(by omega), by omega, rfl⟩

theorem Only.frozen (h : Only F w w1) (p : Addr) (hp : p.block < w.heap.size) : w1.frozen? p = w.frozen? p := by
  simp only [World.frozen?]
  rcases h.block _ hp with e | ⟨cs, cs', t, f, e1, e2, e3, e4⟩
  · rw [e]
  · rw [e1, e2]

/-- What lies as it did at the cells of one part of the set differs at the other part alone. -/
theorem Only.restored (h : Only (fun k i => F k i ∨ G k i) w w1) (hr : ∀ k i, F k i → ¬ G k i → k < w.heap.size → w1.cell? ⟨k, i, none⟩ = w.cell? ⟨k, i, none⟩) : Only G w w1 :=
  ⟨h.os, h.tape, h.output, h.size, fun k hk => by
    rcases h.block k hk with e | ⟨cs, cs', t, f, e1, e2, e3, e4⟩
    · exact .inl e
    · refine .inr ⟨cs, cs', t, f, e1, e2, e3, fun i hi => ?_⟩
      by_cases hf : F k i
      · have := hr k i hf hi hk
        simpa [World.cell?, e1, e2] using this
      · exact e4 i (fun hh => hh.elim hf hi)⟩

/-- Where the set lies in new blocks the old ones are as they were. -/
theorem Only.below {B : Nat} (h : Only F w w1) (hB : B ≤ w.heap.size) (hF : ∀ k i, F k i → B ≤ k) : Below B w w1 :=
  ⟨h.os, h.tape, h.output, h.size, fun k hk => by
    rcases h.block k (by omega) with e | ⟨cs, cs', t, f, e1, e2, e3, e4⟩
    · exact e
    · rw [e1, e2]
      have : cs' = cs := by
        apply Array.ext_getElem?
        intro i
        exact e4 i (fun hf => by have := hF k i hf; omega)
      rw [this]⟩

/-- A block with no cell in the set is as it was. -/
theorem Only.keep (h : Only F w w1) {k : Nat} (hk : k < w.heap.size) (hF : ∀ i, ¬ F k i) : w1.heap[k]? = w.heap[k]? := by
  rcases h.block k hk with e | ⟨cs, cs', t, f, e1, e2, e3, e4⟩
  · exact e
  · rw [e1, e2]
    have : cs' = cs := by
      apply Array.ext_getElem?
      intro i
      exact e4 i (hF i)
    rw [this]

/-- A slice of octets: block, first cell, length, room; nil or not. -/
structure Sl where
  b : Nat
  o : Nat
  n : Nat
  c : Nat
  nul : Bool

def Sl.A (s : Sl) : Option Addr := if s.nul then none else some ⟨s.b, s.o, none⟩
def Sl.val (s : Sl) : Value := .slice s.A s.n s.c
/-- Its cells. -/
def Sl.has (s : Sl) (k i : Nat) : Prop := k = s.b ∧ s.o ≤ i ∧ i < s.o + s.n
/-- The cells of some slices. -/
def SF (l : List Sl) (k i : Nat) : Prop := ∃ s ∈ l, s.has k i

/-- A slice whose octets lie in the world. -/
structure Lies (w : World) (s : Sl) : Prop where
  nil : s.nul = true → s.n = 0 ∧ s.c = 0
  le : s.n ≤ s.c
  small : s.n ≤ 1000000
  cell : ∀ j, j < s.n → ∃ x : Int, w.cell? ⟨s.b, s.o + j, none⟩ = some (.int .u8 x) ∧ w.frozen? ⟨s.b, s.o + j, none⟩ = false

theorem cell_lt {w : World} {a : Addr} {v : Value} (h : w.cell? a = some v) : a.block < w.heap.size := by
  rcases Nat.lt_or_ge a.block w.heap.size with h' | h'
  · exact h'
  · simp [World.cell?, Array.getElem?_eq_none h'] at h

theorem Lies.lt {w : World} {s : Sl} (h : Lies w s) (hn : 0 < s.n) : s.b < w.heap.size := by
  obtain ⟨x, hx, _⟩ := h.cell 0 hn
  exact cell_lt hx

theorem Lies.lt' {w : World} {s : Sl} (h : Lies w s) {k i : Nat} (hF : s.has k i) : k < w.heap.size := by
  obtain ⟨rfl, h1, h2⟩ := hF
  exact h.lt (by omega)

/-- What its octets are. -/
def octsOf (w : World) (s : Sl) : List Int := (List.range s.n).map fun j => match w.cell? ⟨s.b, s.o + j, none⟩ with | some (.int _ x) => x | _ => 0

theorem octsOf_length (w : World) (s : Sl) : (octsOf w s).length = s.n := by simp [octsOf]

theorem Lies.oct {w : World} {s : Sl} (h : Lies w s) (j : Nat) (hj : j < s.n) : w.cell? ⟨s.b, s.o + j, none⟩ = some (.int .u8 ((octsOf w s).getD j 0)) := by
  obtain ⟨x, hx, _⟩ := h.cell j hj
  simp [octsOf, List.getD_eq_getElem?_getD, hj, hx]

end Go.Proofs.Ytghdeoeajbnfkaa.WMem
