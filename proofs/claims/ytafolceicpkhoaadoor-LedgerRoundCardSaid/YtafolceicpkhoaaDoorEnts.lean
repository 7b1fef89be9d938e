/- Entries of a book as lines, in plain lists. -/
import Derived.Test.YtafolceicpkhoaaDoorLines
import Derived.Lib.SlicesS
namespace Go.Proofs.YtafolceicpkhoaaDoor.Pol
set_option linter.unusedVariables false
set_option linter.unusedSimpArgs false

/-- An entry. -/
structure Ent where
  k : Int
  o : Int
  t : Int
  a : Int
  l : Int
  u : Int
def Ent.nums (x : Ent) : List Int := [x.o, x.t, x.a, x.l, x.u]
/-- The words of the kinds of entries. -/
def ewds : List (List UInt8) := [[111, 112, 101, 110, 101, 100], [115, 104, 117, 116], [116, 97, 107, 101, 110], [103, 105, 118, 101, 110], [112, 97, 105, 100], [108, 105, 109, 105, 116, 101, 100], [98, 117, 100, 103, 101, 116, 101, 100], [108, 101, 116], [114, 101, 110, 101, 119, 101, 100], [101, 110, 100, 101, 100], [112, 97, 115, 115, 101, 100]]
def elevens : List ByteArray := ewds.map ba
def ewd (k : Int) : List UInt8 := ewds.getD (k - 1).toNat []
/-- The pieces of a line. -/
def parts6 (x : Ent) : List (List UInt8) := ewd x.k :: x.nums.map Lib.itoa
def lineOf (x : Ent) : List UInt8 := glue 32 (parts6 x)
def piecesOf (l : List UInt8) : List ByteArray := Lib.splitB ⟨#[32]⟩ 0 (Lib.countB (ba l) ⟨#[32]⟩) (ba l)
def LineIs (l : List UInt8) (x : Ent) : Prop := ∃ w p0 p1 p2 p3 p4, piecesOf l = [w, p0, p1, p2, p3, p4] ∧ Lib.idxOfS elevens w = x.k - 1 ∧ 1 ≤ x.k ∧
  Can p0.data.toList x.o ∧ Can p1.data.toList x.t ∧ Can p2.data.toList x.a ∧ Can p3.data.toList x.l ∧ Can p4.data.toList x.u
theorem lineIs_inj {l : List UInt8} {x y : Ent} (h : LineIs l x) (g : LineIs l y) : x = y := by
  obtain ⟨w, p0, p1, p2, p3, p4, e, h1, h2, h3, h4, h5, h6, h7⟩ := h
  obtain ⟨w', q0, q1, q2, q3, q4, e', g1, g2, g3, g4, g5, g6, g7⟩ := g
  rw [e] at e'
  simp only [List.cons.injEq, and_true] at e'
  obtain ⟨rfl, rfl, rfl, rfl, rfl, rfl⟩ := e'
  cases x; cases y
  simp only [Ent.mk.injEq]
  dsimp only at *
  exact ⟨by omega, can_inj h3 g3, can_inj h4 g4, can_inj h5 g5, can_inj h6 g6, can_inj h7 g7⟩
/-- A number that an entry may hold. -/
def InB (n : Int) : Prop := 0 ≤ n ∧ n ≤ 10000000
instance (n : Int) : Decidable (InB n) := by unfold InB; exact inferInstance
def Right (x : Ent) : Prop := 1 ≤ x.k ∧ x.k ≤ 11 ∧ ∀ n ∈ x.nums, InB n
theorem can_inB (n : Int) (h : InB n) : Can (Lib.itoa n) n ∧ (Lib.itoa n).length ≤ 8 ∧ (∀ b ∈ Lib.itoa n, b ≠ 32 ∧ b ≠ 10) := by
  obtain ⟨h0, h1⟩ := h
  have e := itoa_dec n h0
  have hl : (Lib.decDigits n.toNat).length ≤ 8 := by
    rw [Lib.decDigits_length]
    exact nDg 7 _ (by omega)
  refine ⟨⟨rfl, ?_⟩, by rw [e]; exact hl, fun b hb => ?_⟩
  · rw [e, tp_dec]; omega
  · rw [e] at hb
    have := (dec_digit n.toNat).2 b hb
    constructor <;> (intro eb; rw [eb] at this; revert this; decide)
theorem ewd_fin : ∀ j : Fin 11, Lib.idxOfS elevens (ba (ewds.getD j.val [])) = (j.val : Int) ∧ (ewds.getD j.val []).length ≤ 8 ∧ ∀ b ∈ ewds.getD j.val [], b ≠ 32 ∧ b ≠ 10 := by decide +kernel
theorem ewd_of (k : Int) (h0 : 1 ≤ k) (h1 : k ≤ 11) : Lib.idxOfS elevens (ba (ewd k)) = k - 1 ∧ (ewd k).length ≤ 8 ∧ ∀ b ∈ ewd k, b ≠ 32 ∧ b ≠ 10 := by
  obtain ⟨a, b, c⟩ := ewd_fin ⟨(k - 1).toNat, by omega⟩
  refine ⟨?_, b, c⟩
  unfold ewd
  rw [a]; simp; omega
theorem parts_no (x : Ent) (h : Right x) (c : UInt8) (hc : c = 32 ∨ c = 10) : ∀ l ∈ parts6 x, ∀ b ∈ l, b ≠ c := by
  intro l hl b hb
  have key : b ≠ 32 ∧ b ≠ 10 := by
    rcases List.mem_cons.1 hl with rfl | hl
    · exact (ewd_of x.k h.1 h.2.1).2.2 b hb
    · obtain ⟨n, hn, rfl⟩ := List.mem_map.1 hl
      exact (can_inB n (h.2.2 n hn)).2.2 b hb
  rcases hc with rfl | rfl
  · exact key.1
  · exact key.2
theorem line_is (x : Ent) (h : Right x) : LineIs (lineOf x) x := by
  have hp := pieces_glue 32 (parts6 x) (by simp [parts6]) (parts_no x h 32 (.inl rfl))
  refine ⟨ba (ewd x.k), ba (Lib.itoa x.o), ba (Lib.itoa x.t), ba (Lib.itoa x.a), ba (Lib.itoa x.l), ba (Lib.itoa x.u), hp, (ewd_of x.k h.1 h.2.1).1, h.1, ?_, ?_, ?_, ?_, ?_⟩ <;> rw [ba_list]
  · exact (can_inB _ (h.2.2 x.o (by simp [Ent.nums]))).1
  · exact (can_inB _ (h.2.2 x.t (by simp [Ent.nums]))).1
  · exact (can_inB _ (h.2.2 x.a (by simp [Ent.nums]))).1
  · exact (can_inB _ (h.2.2 x.l (by simp [Ent.nums]))).1
  · exact (can_inB _ (h.2.2 x.u (by simp [Ent.nums]))).1
theorem line_no (x : Ent) (h : Right x) : ∀ b ∈ lineOf x, b ≠ 10 := by
  have hp := parts_no x h 10 (.inr rfl)
  have key : ∀ ls : List (List UInt8), (∀ l ∈ ls, ∀ b ∈ l, b ≠ 10) → ∀ b ∈ glue 32 ls, b ≠ 10 := by
    intro ls
    induction ls with
    | nil => intro _ b hb; simp [glue] at hb
    | cons a r ih =>
      intro h b hb
      cases r with
      | nil => exact h a (by simp) b (by simpa [glue] using hb)
      | cons c r =>
        rw [glue] at hb
        rcases List.mem_append.1 hb with hb | hb
        · exact h a (by simp) b hb
        · rcases List.mem_cons.1 hb with rfl | hb
          · decide
          · exact ih (fun l hl => h l (by simp [hl])) b hb
  exact key _ hp
theorem line_len (x : Ent) (h : Right x) : (lineOf x).length ≤ 60 := by
  have h1 := (ewd_of x.k h.1 h.2.1).2.1
  have h2 := (can_inB _ (h.2.2 x.o (by simp [Ent.nums]))).2.1
  have h3 := (can_inB _ (h.2.2 x.t (by simp [Ent.nums]))).2.1
  have h4 := (can_inB _ (h.2.2 x.a (by simp [Ent.nums]))).2.1
  have h5 := (can_inB _ (h.2.2 x.l (by simp [Ent.nums]))).2.1
  have h6 := (can_inB _ (h.2.2 x.u (by simp [Ent.nums]))).2.1
  simp only [lineOf, parts6, Ent.nums, List.map_cons, List.map_nil, glue, List.length_append, List.length_cons]
  omega
def textOf (xs : List Ent) : List UInt8 := ended (xs.map lineOf)
theorem text_len (xs : List Ent) (h : ∀ x ∈ xs, Right x) : (textOf xs).length ≤ 61 * xs.length := by
  unfold textOf
  induction xs with
  | nil => simp [ended]
  | cons x xs ih =>
    have h1 := line_len x (h x (by simp))
    have h2 := ih (fun y hy => h y (by simp [hy]))
    rw [List.map_cons, ended_cons]
    simp only [List.length_append, List.length_cons]
    omega
theorem text_lines (xs : List Ent) (h : ∀ x ∈ xs, Right x) : ∀ l ∈ xs.map lineOf, ∀ b ∈ l, b ≠ 10 := by
  intro l hl
  obtain ⟨x, hx, rfl⟩ := List.mem_map.1 hl
  exact line_no x (h x hx)

/-- Lines that are entries. -/
def LinesAre : List (List UInt8) → List Ent → Prop
  | [], [] => True
  | l :: ls, x :: xs => LineIs l x ∧ LinesAre ls xs
  | _, _ => False
theorem linesAre_text : ∀ xs : List Ent, (∀ x ∈ xs, Right x) → LinesAre (xs.map lineOf) xs
  | [], _ => trivial
  | x :: xs, h => ⟨line_is x (h x (by simp)), linesAre_text xs (fun y hy => h y (by simp [hy]))⟩
theorem linesAre_inj : ∀ {ls : List (List UInt8)} {xs ys : List Ent}, LinesAre ls xs → LinesAre ls ys → xs = ys
  | [], [], [], _, _ => rfl
  | l :: ls, x :: xs, y :: ys, h, g => by rw [lineIs_inj h.1 g.1, linesAre_inj h.2 g.2]
theorem linesAre_len : ∀ {ls : List (List UInt8)} {xs : List Ent}, LinesAre ls xs → xs.length = ls.length
  | [], [], _ => rfl
  | l :: ls, x :: xs, h => by simp [linesAre_len h.2]
/-- The first line that is none. -/
theorem lines_cases : ∀ ls : List (List UInt8), (∃ xs, LinesAre ls xs) ∨ ∃ a l b xs, ls = a ++ l :: b ∧ LinesAre a xs ∧ ∀ x, ¬ LineIs l x
  | [] => .inl ⟨[], trivial⟩
  | l :: ls => by
    by_cases h : ∃ x, LineIs l x
    · obtain ⟨x, hx⟩ := h
      rcases lines_cases ls with ⟨xs, h1⟩ | ⟨a, m, b, xs, rfl, h2, h3⟩
      · exact .inl ⟨x :: xs, hx, h1⟩
      · exact .inr ⟨l :: a, m, b, x :: xs, rfl, ⟨hx, h2⟩, h3⟩
    · exact .inr ⟨[], l, ls, [], rfl, trivial, fun x hx => h ⟨x, hx⟩⟩
end Go.Proofs.YtafolceicpkhoaaDoor.Pol
