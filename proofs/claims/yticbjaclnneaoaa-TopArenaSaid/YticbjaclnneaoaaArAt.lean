/- Arenas: what an arena is in memory. -/
import Derived.Test.YticbjaclnneaoaaAwake
namespace Go.Proofs.Yticbjaclnneaoaa.Arena
set_option linter.unusedVariables false
open Go.RowKit Go.Proofs.YticbjaclnneaoaaW.PrintWords Go.Proofs.YticbjaclnneaoaaW.PrintLast Go.Proofs.YticbjaclnneaoaaW.PrintMore Go.Proofs.Yticbjaclnneaoaa.Book Go.Proofs.Yticbjaclnneaoaa.Oct
set_option linter.unusedSimpArgs false

/-! ### rows of structs -/
def rowsOf {α : Type} (f : α → List Value) (l : List α) : List Value := (l.map f).flatten
section
variable {α : Type} {f : α → List Value} {k : Nat} (hf : ∀ a, (f a).length = k)
theorem rowsOf_cons (f : α → List Value) (a : α) (l : List α) : rowsOf f (a :: l) = f a ++ rowsOf f l := rfl
theorem rowsOf_app (f : α → List Value) (xs zs : List α) : rowsOf f (xs ++ zs) = rowsOf f xs ++ rowsOf f zs := by simp [rowsOf]
theorem rowsOf_single (f : α → List Value) (x : α) : rowsOf f [x] = f x := by simp [rowsOf]
include hf
theorem rowsOf_length (l : List α) : (rowsOf f l).length = l.length * k := by
  induction l with
  | nil => simp [rowsOf]
  | cons a l ih => rw [rowsOf_cons, List.length_append, ih, hf, List.length_cons, Nat.succ_mul]; omega
theorem rowsOf_get (l : List α) (i : Nat) (x : α) (h : l[i]? = some x) (j : Nat) (v : Value) (hv : (f x)[j]? = some v) : (rowsOf f l)[i * k + j]? = some v := by
  have hj : j < k := by
    have := (List.getElem?_eq_some_iff.1 hv).1
    rwa [hf] at this
  induction l generalizing i with
  | nil => simp at h
  | cons a l ih =>
    rw [rowsOf_cons]
    cases i with
    | zero =>
      have : a = x := by simpa using h
      subst this
      rw [List.getElem?_append_left (by rw [hf]; omega)]
      simpa using hv
    | succ i =>
      have e : (i + 1) * k + j = k + (i * k + j) := by rw [Nat.succ_mul]; omega
      rw [List.getElem?_append_right (by rw [hf, e]; omega), hf, e, Nat.add_sub_cancel_left]
      exact ih i (by simpa using h)
theorem rowsOf_take (l : List α) (n : Nat) : (rowsOf f l).take (n * k) = rowsOf f (l.take n) := by
  induction l generalizing n with
  | nil => simp [rowsOf]
  | cons a l ih =>
    cases n with
    | zero => simp [rowsOf]
    | succ n =>
      rw [rowsOf_cons, List.take_succ_cons, rowsOf_cons, ← ih n, List.take_append, hf, List.take_of_length_le (by rw [hf, Nat.succ_mul]; omega)]
      congr 2
      rw [Nat.succ_mul]; omega
theorem rowsOf_set (l : List α) (i : Nat) (x y : α) (h : l[i]? = some x) (j : Nat) (u : Value) (hj : j < k) (hy : f y = (f x).set j u) : (rowsOf f l).set (i * k + j) u = rowsOf f (l.set i y) := by
  induction l generalizing i with
  | nil => simp at h
  | cons a l ih =>
    cases i with
    | zero =>
      have : a = x := by simpa using h
      subst this
      rw [List.set_cons_zero, rowsOf_cons, rowsOf_cons, hy, Nat.zero_mul, Nat.zero_add, List.set_append_left _ _ (by rw [hf]; exact hj)]
    | succ i =>
      have e : (i + 1) * k + j = k + (i * k + j) := by rw [Nat.succ_mul]; omega
      rw [List.set_cons_succ, rowsOf_cons, rowsOf_cons, List.set_append_right _ _ (by rw [hf, e]; omega), hf, e, Nat.add_sub_cancel_left, ih i (by simpa using h)]
end
theorem rowsOf_one {α : Type} {f : α → List Value} (h : ∀ a, ∀ v ∈ f a, v.oneCell' = true) (l : List α) : ∀ v ∈ rowsOf f l, v.oneCell' = true := by
  intro v hv
  unfold rowsOf at hv
  rw [List.mem_flatten] at hv
  obtain ⟨xs, hx, hv⟩ := hv
  obtain ⟨a, _, rfl⟩ := List.mem_map.1 hx
  exact h a v hv

theorem own_shape {w : World} {base e : TypeId} {size n : Nat} {v : Value} {xs : List Value} (h : w.ownsRow base e size v n xs) : ∃ A cap, v = .slice A n cap ∧ n ≤ cap := by
  rcases h.2 with ⟨rfl, rfl⟩ | ⟨g, cap, cur, rfl, _, _, h, _⟩
  · exact ⟨none, 0, rfl, Nat.le_refl _⟩
  · exact ⟨_, _, rfl, h⟩
theorem own_base0 {w : World} {base e size n : Nat} {v : Value} {xs : List Value} (h : w.ownsRow base e size v n xs) : w.ownsRow 0 e size v n xs :=
  ⟨h.1, h.2.imp id (fun ⟨g, cap, cur, e1, _, r⟩ => ⟨g, cap, cur, e1, Nat.zero_le _, r⟩)⟩
/-- An element of a row of structs. -/
theorem own_at {α : Type} {f : α → List Value} {k : Nat} (hf : ∀ a, (f a).length = k) (hk : 0 < k) {w : World} {base e n : Nat} {v : Value} {l : List α} (h : w.ownsRow base e k v n (rowsOf f l)) {i : Nat} {x : α} (hx : l[i]? = some x) :
    ∃ g cap, v = .slice (some ⟨g, 0, none⟩) n cap ∧ ∀ j u, (f x)[j]? = some u → w.cell? ⟨g, i * k + j, none⟩ = some u := by
  have hl := h.1
  rw [rowsOf_length hf] at hl
  have hi := (List.getElem?_eq_some_iff.1 hx).1
  rcases h.2 with ⟨e, h0⟩ | ⟨g, c1, cur, e, _⟩
  · subst h0
    rw [Nat.zero_mul] at hl
    have : 0 < l.length * k := Nat.mul_pos (by omega) hk
    omega
  · refine ⟨g, c1, e, fun j u hj => ?_⟩
    have hc := h.cells (g := g) (by rw [e]; rfl)
    have := hc (i * k + j) _ (rowsOf_get hf l i x hx j u hj)
    rwa [add_zero'] at this
/-- A row is cut at its end. -/
theorem own_cut {α : Type} {f : α → List Value} {k : Nat} (hf : ∀ a, (f a).length = k) {w : World} {base e n cap : Nat} {A : Option Addr} {l : List α} (h : w.ownsRow base e k (.slice A n cap) n (rowsOf f l)) (m : Nat) (hm : m ≤ n) (hl : l.length = n) :
    w.ownsRow base e k (.slice A m cap) m (rowsOf f (l.take m)) := by
  refine ⟨by rw [rowsOf_length hf, List.length_take, hl, Nat.min_eq_left hm], ?_⟩
  rcases h.2 with ⟨e, h0⟩ | ⟨g, c1, cur, e, h1, h2, h3, h4, h5, h6⟩
  · subst h0
    obtain rfl : m = 0 := by omega
    exact .inl ⟨e, rfl⟩
  · injection e with e1 e2 e3
    subst e1; subst e3
    refine .inr ⟨g, cap, cur, rfl, h1, h2, by omega, h4, h5, ?_⟩
    rw [← rowsOf_take hf, ← h6, List.take_take, Nat.min_eq_left (Nat.mul_le_mul_right k hm)]

/-! ### an arena -/
structure Reg where
  no : Int
  ch : Nat
  frm : Nat
  tt : Nat
structure Mrk where
  no : Int
  many : Nat
  tend : Nat
structure Chu where
  g : Nat
  ys : List Int
def Reg.cells (x : Reg) : List Value := [.int .i64 x.no, .int .i64 x.ch, .int .i64 x.frm, .int .i64 x.tt]
def Mrk.cells (x : Mrk) : List Value := [.int .i64 x.no, .int .i64 x.many, .int .i64 x.tend]
def Chu.cells (x : Chu) : List Value := [.slice (some ⟨x.g, 0, none⟩) x.ys.length x.ys.length]
theorem reg4 (x : Reg) : x.cells.length = 4 := rfl
theorem mrk3 (x : Mrk) : x.cells.length = 3 := rfl
theorem chu1 (x : Chu) : x.cells.length = 1 := rfl
theorem reg_one (x : Reg) : ∀ v ∈ x.cells, v.oneCell' = true := by
  intro v hv
  simp only [Reg.cells, List.mem_cons, List.not_mem_nil, or_false] at hv
  rcases hv with rfl | rfl | rfl | rfl <;> rfl
theorem mrk_one (x : Mrk) : ∀ v ∈ x.cells, v.oneCell' = true := by
  intro v hv
  simp only [Mrk.cells, List.mem_cons, List.not_mem_nil, or_false] at hv
  rcases hv with rfl | rfl | rfl <;> rfl
theorem chu_one (x : Chu) : ∀ v ∈ x.cells, v.oneCell' = true := by
  intro v hv
  simp only [Chu.cells, List.mem_cons, List.not_mem_nil, or_false] at hv
  rcases hv with rfl; rfl

/-- What an arena has. -/
structure ArS where
  cv : Value
  rv : Value
  mv : Value
  cs : List Chu
  rs : List Reg
  ms : List Mrk
  lr : Nat
  lm : Nat
  pk : Nat

def aroom (cs : List Chu) : Nat := (cs.map fun c => c.ys.length).sum
def alen (rs : List Reg) : Nat := (rs.map fun x => x.tt - x.frm).sum
def arenaCells (p : Nat) (o k s m size : Int) (cl : Bool) (S : ArS) : Obj := .cells #[.pointer (some ⟨p, 0, none⟩), .int .i64 o, .int .i64 k, .int .i64 s, .int .i64 m, .int .i64 size, .bool cl, S.cv, S.rv, S.mv, .int .i64 S.lr, .int .i64 S.lm, .int .i64 S.pk] 73

structure ArenaAt (w : World) (aa p : Nat) (o k s m size : Int) (S : ArS) : Prop where
  head : w.heap[aa]? = some (arenaCells p o k s m size false S)
  ownC : w.ownsRow 0 46 1 S.cv S.cs.length (rowsOf Chu.cells S.cs)
  ownR : w.ownsRow 0 82 4 S.rv S.rs.length (rowsOf Reg.cells S.rs)
  ownM : w.ownsRow 0 76 3 S.mv S.ms.length (rowsOf Mrk.cells S.ms)
  rows : ∀ c ∈ S.cs, Row w c.g c.ys
  apart : (S.cs.map (·.g)).Nodup

/-- Its regions lie in its chunks; its numbers are in order. -/
structure Good (S : ArS) : Prop where
  regs : ∀ x ∈ S.rs, ∃ c, S.cs[x.ch]? = some c ∧ x.frm ≤ x.tt ∧ x.tt ≤ c.ys.length
  few : S.cs.length ≤ 200
  fewR : S.rs.length ≤ 2000
  fewM : S.ms.length ≤ 100
  room : aroom S.cs ≤ 100000
  nos : (S.rs.map (·.no)).Pairwise (· < ·)
  nol : ∀ x ∈ S.rs, 1 ≤ x.no ∧ x.no ≤ S.lr
  mnos : (S.ms.map (·.no)).Pairwise (· < ·)
  mnol : ∀ x ∈ S.ms, 1 ≤ x.no ∧ x.no ≤ S.lm
  many : ∀ x ∈ S.ms, x.many ≤ S.rs.length
  mono : S.ms.Pairwise (fun a b => a.many ≤ b.many)
  peak : S.pk ≤ 200000000

def AFoot (aa : Nat) (S : ArS) (j : Nat) : Prop := j = aa ∨ some j = S.cv.ownBlock ∨ some j = S.rv.ownBlock ∨ some j = S.mv.ownBlock ∨ j ∈ S.cs.map (·.g)

section
variable {w w' : World} {aa p : Nat} {o k s m size : Int} {S : ArS}
theorem ArenaAt.lt (h : ArenaAt w aa p o k s m size S) {j : Nat} (hj : AFoot aa S j) : j < w.heap.size := by
  rcases hj with rfl | hj | hj | hj | hj
  · exact blk_lt h.head
  · exact own_lt' h.ownC hj
  · exact own_lt' h.ownR hj
  · exact own_lt' h.ownM hj
  · obtain ⟨c, hc, rfl⟩ := List.mem_map.1 hj
    exact (h.rows c hc).lt
theorem ArenaAt.frame (h : ArenaAt w aa p o k s m size S) (hh : ∀ j, AFoot aa S j → w'.heap[j]? = w.heap[j]?) : ArenaAt w' aa p o k s m size S where
  head := (hh aa (.inl rfl)).trans h.head
  ownC := own_frame h.ownC (fun j hj => hh j (.inr (.inl hj)))
  ownR := own_frame h.ownR (fun j hj => hh j (.inr (.inr (.inl hj))))
  ownM := own_frame h.ownM (fun j hj => hh j (.inr (.inr (.inr (.inl hj)))))
  rows := fun c hc => (hh c.g (.inr (.inr (.inr (.inr (List.mem_map_of_mem hc)))))).trans (h.rows c hc)
  apart := h.apart
theorem ArenaAt.below (h : ArenaAt w aa p o k s m size S) (hb : Below w.heap.size w w') : ArenaAt w' aa p o k s m size S := h.frame (fun j hj => hb.block j (h.lt hj))
theorem ArenaAt.upd {T : Nat → Prop} (h : ArenaAt w aa p o k s m size S) (hu : Upd T w w') (hS : ∀ j, AFoot aa S j → ¬ T j) : ArenaAt w' aa p o k s m size S := h.frame (fun j hj => hu.block j (h.lt hj) (hS j hj))
/-- The types of its blocks. -/
theorem ArenaAt.typed (h : ArenaAt w aa p o k s m size S) {j : Nat} (hj : AFoot aa S j) : ∃ cur t, w.heap[j]? = some (.cells cur t) ∧ (t = 73 ∨ t = 46 ∨ t = 82 ∨ t = 76 ∨ t = 5) := by
  rcases hj with rfl | hj | hj | hj | hj
  · exact ⟨_, _, h.head, .inl rfl⟩
  · obtain ⟨cur, hc⟩ := own_typed h.ownC j hj.symm
    exact ⟨_, _, hc, .inr (.inl rfl)⟩
  · obtain ⟨cur, hc⟩ := own_typed h.ownR j hj.symm
    exact ⟨_, _, hc, .inr (.inr (.inl rfl))⟩
  · obtain ⟨cur, hc⟩ := own_typed h.ownM j hj.symm
    exact ⟨_, _, hc, .inr (.inr (.inr (.inl rfl)))⟩
  · obtain ⟨c, hc, rfl⟩ := List.mem_map.1 hj
    exact ⟨_, _, h.rows c hc, .inr (.inr (.inr (.inr rfl)))⟩
theorem ArenaAt.not_book {b : BookS} {q : Parts} (h : ArenaAt w aa p o k s m size S) (hB : BookAt w p b q) {j : Nat} (hj : AFoot aa S j) : ¬ q.Foot p j := by
  obtain ⟨cur, t, hc, rfl | rfl | rfl | rfl | rfl⟩ := h.typed hj <;> exact not_foot hB hc (by decide) (by decide) (by decide) (by decide)
/-- A block of another type is none of its. -/
theorem ArenaAt.not_of (h : ArenaAt w aa p o k s m size S) {j : Nat} {cur : Array Value} {t : TypeId} (hc : w.heap[j]? = some (.cells cur t)) (h1 : t ≠ 73) (h2 : t ≠ 46) (h3 : t ≠ 82) (h4 : t ≠ 76) (h5 : t ≠ 5) : ¬ AFoot aa S j := fun hj => by
  obtain ⟨cur', t', hc', ht⟩ := h.typed hj
  rw [hc] at hc'
  injection hc' with hc'
  injection hc' with _ e _
  subst e
  rcases ht with e | e | e | e | e
  · exact h1 e
  · exact h2 e
  · exact h3 e
  · exact h4 e
  · exact h5 e
theorem ArenaAt.not_map (h : ArenaAt w aa p o k s m size S) {j : Nat} {es : Array MapEntry} {c : Nat} (hc : w.heap[j]? = some (.map es c)) : ¬ AFoot aa S j := fun hj => by
  obtain ⟨cur', t', hc', ht⟩ := h.typed hj
  rw [hc] at hc'
  cases hc'
end

theorem arena_cells {w : World} {aa p : Nat} {o k s m size : Int} {cl : Bool} {S : ArS} (h : w.heap[aa]? = some (arenaCells p o k s m size cl S)) :
    w.cell? ⟨aa, 0, none⟩ = some (.pointer (some ⟨p, 0, none⟩)) ∧ w.cell? ⟨aa, 1, none⟩ = some (.int .i64 o) ∧ w.cell? ⟨aa, 2, none⟩ = some (.int .i64 k) ∧ w.cell? ⟨aa, 3, none⟩ = some (.int .i64 s) ∧ w.cell? ⟨aa, 4, none⟩ = some (.int .i64 m) ∧ w.cell? ⟨aa, 5, none⟩ = some (.int .i64 size) ∧ w.cell? ⟨aa, 6, none⟩ = some (.bool cl) ∧ w.cell? ⟨aa, 7, none⟩ = some S.cv ∧ w.cell? ⟨aa, 8, none⟩ = some S.rv ∧ w.cell? ⟨aa, 9, none⟩ = some S.mv ∧ w.cell? ⟨aa, 10, none⟩ = some (.int .i64 S.lr) ∧ w.cell? ⟨aa, 11, none⟩ = some (.int .i64 S.lm) ∧ w.cell? ⟨aa, 12, none⟩ = some (.int .i64 S.pk) := by
  refine ⟨?_, ?_, ?_, ?_, ?_, ?_, ?_, ?_, ?_, ?_, ?_, ?_, ?_⟩ <;> rw [blk_cell h] <;> rfl

theorem aroom_app (xs zs : List Chu) : aroom (xs ++ zs) = aroom xs + aroom zs := by simp [aroom]
theorem alen_app (xs zs : List Reg) : alen (xs ++ zs) = alen xs + alen zs := by simp [alen]
theorem take_snoc {α : Type} (cs : List α) (k : Nat) (c : α) (h : cs[k]? = some c) : cs.take (k + 1) = cs.take k ++ [c] := by
  rw [List.take_add_one, h]; rfl
theorem aroom_take (cs : List Chu) (k : Nat) (c : Chu) (h : cs[k]? = some c) : aroom (cs.take (k + 1)) = aroom (cs.take k) + c.ys.length := by
  rw [take_snoc cs k c h, aroom_app]; simp [aroom]
theorem alen_take (rs : List Reg) (k : Nat) (x : Reg) (h : rs[k]? = some x) : alen (rs.take (k + 1)) = alen (rs.take k) + (x.tt - x.frm) := by
  rw [take_snoc rs k x h, alen_app]; simp [alen]
theorem aroom_le (cs : List Chu) (k : Nat) : aroom (cs.take k) ≤ aroom cs := by
  conv => rhs; rw [← List.take_append_drop k cs, aroom_app]
  omega
theorem alen_le (rs : List Reg) (k : Nat) : alen (rs.take k) ≤ alen rs := by
  conv => rhs; rw [← List.take_append_drop k rs, alen_app]
  omega
theorem chunk_le {cs : List Chu} {c : Chu} (h : c ∈ cs) : c.ys.length ≤ aroom cs := by
  obtain ⟨k, hk, rfl⟩ := List.mem_iff_getElem.1 h
  have h1 := aroom_take cs k _ (List.getElem?_eq_getElem hk)
  have := aroom_le cs (k + 1)
  omega
section
variable {S : ArS}
theorem Good.reg (h : Good S) {x : Reg} (hx : x ∈ S.rs) : x.frm ≤ x.tt ∧ x.tt ≤ 100000 := by
  obtain ⟨c, h1, h2, h3⟩ := h.regs x hx
  have := chunk_le (List.mem_of_getElem? h1)
  have := h.room
  omega
theorem Good.chunk (h : Good S) {c : Chu} (hc : c ∈ S.cs) : c.ys.length ≤ 100000 := Nat.le_trans (chunk_le hc) h.room
theorem alen_bound (rs : List Reg) (h : ∀ x ∈ rs, x.tt ≤ 100000) : alen rs ≤ rs.length * 100000 := by
  induction rs with
  | nil => simp [alen]
  | cons a l ih =>
    have := ih (fun c hc => h c (by simp [hc]))
    have h1 := h a (by simp)
    have e : alen (a :: l) = (a.tt - a.frm) + alen l := by simp [alen]
    rw [e, List.length_cons]
    omega
theorem Good.len (h : Good S) : alen S.rs ≤ 200000000 := by
  have := alen_bound S.rs (fun x hx => (h.reg hx).2)
  have := h.fewR
  omega
end
end Go.Proofs.Yticbjaclnneaoaa.Arena

namespace Go.Proofs.Yticbjaclnneaoaa.Arena
set_option linter.unusedVariables false
set_option linter.unusedSimpArgs false

/-- The first place for n octets, from chunk k on; a is where it may begin in the first one. -/
def plcL (n : Nat) : List Chu → Nat → Nat → Option (Nat × Nat)
  | [], _, _ => none
  | c :: L, k, a => if a + n ≤ c.ys.length then some (k, a) else plcL n L (k + 1) 0
def rup (t al : Nat) : Nat := (t + al - 1) / al * al
theorem rup_ge (t al : Nat) (h : 1 ≤ al) : t ≤ rup t al := by
  unfold rup
  have h1 := Nat.div_add_mod (t + al - 1) al
  have h2 := Nat.mod_lt (t + al - 1) (show 0 < al by omega)
  have h3 : al * ((t + al - 1) / al) = (t + al - 1) / al * al := Nat.mul_comm _ _
  omega
theorem rup_le (t al : Nat) (h : 1 ≤ al) : rup t al ≤ t + al := by
  unfold rup
  have := Nat.div_mul_le_self (t + al - 1) al
  omega
def plc (cs : List Chu) (rs : List Reg) (n al : Nat) : Option (Nat × Nat) := match rs.getLast? with
  | none => plcL n cs 0 0
  | some x => plcL n (cs.drop x.ch) x.ch (rup x.tt al)

theorem plcL_some (n : Nat) : ∀ (L : List Chu) (k a : Nat) {i b : Nat}, plcL n L k a = some (i, b) → k ≤ i ∧ (∃ c, L[i - k]? = some c ∧ b + n ≤ c.ys.length) ∧ (i = k → b = a)
  | [], _, _, _, _, h => by cases h
  | c :: L, k, a, i, b, h => by
    unfold plcL at h
    split at h
    · rename_i hle
      injection h with h
      injection h with h1 h2
      subst h1; subst h2
      exact ⟨Nat.le_refl _, ⟨c, by simp, hle⟩, fun _ => rfl⟩
    · obtain ⟨h1, ⟨c', h2, h3⟩, _⟩ := plcL_some n L (k + 1) 0 h
      refine ⟨by omega, ⟨c', ?_, h3⟩, fun e => by omega⟩
      have e : i - k = (i - (k + 1)) + 1 := by omega
      rw [e, List.getElem?_cons_succ]
      exact h2

/-- A place behind all that is there. -/
def Behind (rs : List Reg) (i b : Nat) : Prop := ∀ x, rs.getLast? = some x → x.ch < i ∨ (x.ch = i ∧ x.tt ≤ b)
theorem plc_some {cs : List Chu} {rs : List Reg} {n al i b : Nat} (hal : 1 ≤ al) (h : plc cs rs n al = some (i, b)) : (∃ c, cs[i]? = some c ∧ b + n ≤ c.ys.length) ∧ Behind rs i b := by
  unfold plc at h
  split at h
  · rename_i e
    obtain ⟨_, ⟨c, h2, h3⟩, _⟩ := plcL_some n cs 0 0 h
    exact ⟨⟨c, by simpa using h2, h3⟩, fun x hx => by rw [e] at hx; cases hx⟩
  · rename_i x e
    obtain ⟨h1, ⟨c, h2, h3⟩, h4⟩ := plcL_some n _ _ _ h
    rw [List.getElem?_drop] at h2
    have e2 : x.ch + (i - x.ch) = i := by omega
    rw [e2] at h2
    refine ⟨⟨c, h2, h3⟩, fun y hy => ?_⟩
    rw [e] at hy
    injection hy with hy
    subst hy
    by_cases hi : i = x.ch
    · refine .inr ⟨hi.symm, ?_⟩
      rw [h4 hi]
      exact rup_ge _ _ hal
    · exact .inl (by omega)

/-! ### what is written -/
def cput (cs : List Chu) (i b : Nat) (os : List Int) : List Chu := cs.modify i fun c => { c with ys := c.ys.take b ++ os ++ c.ys.drop (b + os.length) }
theorem cput_length (cs : List Chu) (i b : Nat) (os : List Int) : (cput cs i b os).length = cs.length := by simp [cput]
theorem cput_get_ne {cs : List Chu} {i b j : Nat} {os : List Int} (h : j ≠ i) : (cput cs i b os)[j]? = cs[j]? := by
  unfold cput
  rw [List.getElem?_modify]
  cases cs[j]? <;> simp [Ne.symm h]
theorem cput_get {cs : List Chu} {i b : Nat} {os : List Int} {c : Chu} (h : cs[i]? = some c) : (cput cs i b os)[i]? = some ⟨c.g, c.ys.take b ++ os ++ c.ys.drop (b + os.length)⟩ := by
  unfold cput
  rw [List.getElem?_modify, h]
  simp
theorem put_len {ys os : List Int} {b : Nat} (h : b + os.length ≤ ys.length) : (ys.take b ++ os ++ ys.drop (b + os.length)).length = ys.length := by
  simp only [List.length_append, List.length_take, List.length_drop]; omega
/-- The chunks as they were, seen without what they hold. -/
theorem cput_shape {β : Type} (f : Chu → β) (hf : ∀ c ys, ys.length = c.ys.length → f ⟨c.g, ys⟩ = f c) {cs : List Chu} {i b : Nat} {os : List Int} {c : Chu} (h : cs[i]? = some c) (hb : b + os.length ≤ c.ys.length) : (cput cs i b os).map f = cs.map f := by
  apply List.ext_getElem?
  intro j
  rw [List.getElem?_map, List.getElem?_map]
  by_cases hj : j = i
  · subst hj
    rw [cput_get h, h]
    simp only [Option.map_some]
    rw [hf c _ (put_len hb)]
  · rw [cput_get_ne hj]
theorem cput_g {cs : List Chu} {i b : Nat} {os : List Int} {c : Chu} (h : cs[i]? = some c) (hb : b + os.length ≤ c.ys.length) : (cput cs i b os).map (·.g) = cs.map (·.g) := cput_shape (·.g) (fun _ _ _ => rfl) h hb
theorem cput_room {cs : List Chu} {i b : Nat} {os : List Int} {c : Chu} (h : cs[i]? = some c) (hb : b + os.length ≤ c.ys.length) : (cput cs i b os).map (fun c => c.ys.length) = cs.map (fun c => c.ys.length) := cput_shape (fun c => c.ys.length) (fun _ _ e => e) h hb
theorem cput_cells {cs : List Chu} {i b : Nat} {os : List Int} {c : Chu} (h : cs[i]? = some c) (hb : b + os.length ≤ c.ys.length) : rowsOf Chu.cells (cput cs i b os) = rowsOf Chu.cells cs := by
  unfold rowsOf
  rw [cput_shape Chu.cells (fun c ys e => by unfold Chu.cells; simp only [e]) h hb]
theorem cput_aroom {cs : List Chu} {i b : Nat} {os : List Int} {c : Chu} (h : cs[i]? = some c) (hb : b + os.length ≤ c.ys.length) : aroom (cput cs i b os) = aroom cs := by
  unfold aroom
  rw [cput_room h hb]
theorem cput_aroom_take {cs : List Chu} {i b : Nat} {os : List Int} {c : Chu} (h : cs[i]? = some c) (hb : b + os.length ≤ c.ys.length) (k : Nat) : aroom ((cput cs i b os).take k) = aroom (cs.take k) := by
  unfold aroom
  rw [List.map_take, List.map_take, cput_room h hb]
/-- An octet of a chunk behind a write. -/
theorem put_at {ys os : List Int} {b : Nat} (h : b + os.length ≤ ys.length) (j : Nat) : (ys.take b ++ os ++ ys.drop (b + os.length))[j]? = if b ≤ j ∧ j < b + os.length then os[j - b]? else ys[j]? := by
  by_cases h1 : j < b
  · rw [if_neg (by omega), List.append_assoc, List.getElem?_append_left (by rw [List.length_take]; omega), List.getElem?_take, if_pos h1]
  · by_cases h2 : j < b + os.length
    · rw [if_pos ⟨by omega, h2⟩, List.append_assoc, List.getElem?_append_right (by rw [List.length_take]; omega), List.length_take, List.getElem?_append_left (by omega)]
      congr 1; omega
    · rw [if_neg (by omega), List.getElem?_append_right (by simp; omega), List.getElem?_drop]
      congr 1
      simp only [List.length_append, List.length_take]; omega

/-! ### the order of the regions, and what they hold -/
def Ord (rs : List Reg) : Prop := rs.Pairwise fun x y => x.ch < y.ch ∨ (x.ch = y.ch ∧ x.tt ≤ y.frm)
def byteOf (no : Int) : Int := no % 256
def Holds (cs : List Chu) (x : Reg) : Prop := ∀ c, cs[x.ch]? = some c → ∀ j, x.frm ≤ j → j < x.tt → c.ys[j]? = some (byteOf x.no)
def Filled (cs : List Chu) (rs : List Reg) : Prop := ∀ x ∈ rs, Holds cs x

theorem Ord.behind {rs : List Reg} (h : Ord rs) (hf : ∀ x ∈ rs, x.frm ≤ x.tt) {i b : Nat} (hb : Behind rs i b) : ∀ x ∈ rs, x.ch < i ∨ (x.ch = i ∧ x.tt ≤ b) := by
  intro x hx
  obtain ⟨k, hk, rfl⟩ := List.mem_iff_getElem.1 hx
  have hl : rs.getLast? = some rs[rs.length - 1] := by
    rw [List.getLast?_eq_getElem?, List.getElem?_eq_getElem (by omega)]
  have h1 := hb _ hl
  by_cases hkl : k = rs.length - 1
  · subst hkl; exact h1
  · have h2 := (List.pairwise_iff_getElem.1 h) k (rs.length - 1) hk (by omega) (by omega)
    have h3 := hf _ (List.getElem_mem (l := rs) (n := rs.length - 1) (by omega))
    omega
theorem Ord.snoc {rs : List Reg} (h : Ord rs) (hf : ∀ x ∈ rs, x.frm ≤ x.tt) {y : Reg} (hb : Behind rs y.ch y.frm) : Ord (rs ++ [y]) := by
  unfold Ord
  rw [List.pairwise_append]
  refine ⟨h, List.pairwise_singleton _ _, fun x hx z hz => ?_⟩
  rw [List.mem_singleton.1 hz]
  exact h.behind hf hb x hx
theorem Ord.take {rs : List Reg} (h : Ord rs) (n : Nat) : Ord (rs.take n) := h.sublist (List.take_sublist n rs)
theorem Filled.take {cs : List Chu} {rs : List Reg} (h : Filled cs rs) (n : Nat) : Filled cs (rs.take n) := fun x hx => h x (List.mem_of_mem_take hx)
/-- A write behind the regions. -/
theorem Filled.put {cs : List Chu} {rs : List Reg} (h : Filled cs rs) {i b : Nat} (hb : ∀ x ∈ rs, x.ch < i ∨ (x.ch = i ∧ x.tt ≤ b)) (os : List Int) (hfit : ∀ c, cs[i]? = some c → b + os.length ≤ c.ys.length) : Filled (cput cs i b os) rs := by
  intro x hx c hc j h1 h2
  have hbx := hb x hx
  by_cases hi : x.ch = i
  · rw [hi] at hc
    cases hci : cs[i]? with
    | none =>
      have : (cput cs i b os)[i]? = none := by rw [List.getElem?_eq_none_iff] at hci ⊢; rw [cput_length]; exact hci
      rw [this] at hc; cases hc
    | some c0 =>
      rw [cput_get hci] at hc
      injection hc with hc
      subst hc
      simp only
      rw [put_at (hfit c0 hci), if_neg (by omega)]
      exact h x hx c0 (by rw [hi]; exact hci) j h1 h2
  · rw [cput_get_ne hi] at hc
    exact h x hx c hc j h1 h2
theorem Filled.more {cs : List Chu} {rs : List Reg} (h : Filled cs rs) (hl : ∀ x ∈ rs, x.ch < cs.length) (ks : List Chu) : Filled (cs ++ ks) rs := by
  intro x hx c hc
  rw [List.getElem?_append_left (hl x hx)] at hc
  exact h x hx c hc
/-- The new region is filled. -/
theorem holds_put {cs : List Chu} {i b n : Nat} {no : Int} {c0 : Chu} (hc : cs[i]? = some c0) (hb : b + n ≤ c0.ys.length) : Holds (cput cs i b (List.replicate n (byteOf no))) ⟨no, i, b, b + n⟩ := by
  intro c hc' j h1 h2
  simp only at hc' h1 h2
  rw [cput_get hc] at hc'
  injection hc' with hc'
  subst hc'
  simp only
  rw [put_at (by rw [List.length_replicate]; exact hb), List.length_replicate, if_pos ⟨h1, h2⟩, List.getElem?_replicate, if_pos (by omega)]
end Go.Proofs.Yticbjaclnneaoaa.Arena
