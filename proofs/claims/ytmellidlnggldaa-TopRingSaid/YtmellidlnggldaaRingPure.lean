/- Rings in plain lists: n cells from one on, around the end. -/
namespace Go.Proofs.Ytmellidlnggldaa.Ring
set_option linter.unusedVariables false

/-- n octets from a cell on, around the end. -/
def ringTake (ys : List Int) (a n : Nat) : List Int := (ys.drop a).take (min (a + n) ys.length - a) ++ ys.take (n - (min (a + n) ys.length - a))

/-- n octets written from a cell on, around the end. -/
def ringPut (ys os : List Int) (a : Nat) : List Int :=
  (fun zs : List Int => os.drop (min (a + os.length) ys.length - a) ++ zs.drop (os.length - (min (a + os.length) ys.length - a))) (ys.take a ++ os.take (min (a + os.length) ys.length - a) ++ ys.drop (a + (min (a + os.length) ys.length - a)))

theorem take_length {ys : List Int} {a n : Nat} (ha : a ≤ ys.length) (hn : n ≤ ys.length) : (ringTake ys a n).length = n := by
  unfold ringTake
  simp only [List.length_append, List.length_take, List.length_drop]
  omega

theorem wrap_mod {a i c : Nat} (ha : a < c) (hi : i < c) (h : ¬ a + i < c) : (a + i) % c = a + i - c := by
  rw [Nat.mod_eq_sub_mod (by omega), Nat.mod_eq_of_lt (by omega)]

theorem take_get {ys : List Int} {a n : Nat} (ha : a < ys.length) (hn : n ≤ ys.length) (i : Nat) (hi : i < n) : (ringTake ys a n)[i]? = ys[(a + i) % ys.length]? := by
  unfold ringTake
  have hl : ((ys.drop a).take (min (a + n) ys.length - a)).length = min (a + n) ys.length - a := by
    simp only [List.length_take, List.length_drop]; omega
  rw [List.getElem?_append, hl]
  by_cases hc : a + i < ys.length
  · rw [if_pos (by omega), Nat.mod_eq_of_lt hc, List.getElem?_take, if_pos (by omega), List.getElem?_drop]
  · rw [if_neg (by omega), wrap_mod ha (by omega) hc, List.getElem?_take, if_pos (by omega)]
    congr 1; omega

theorem put_length {ys os : List Int} {a : Nat} (ha : a ≤ ys.length) (ho : os.length ≤ ys.length) : (ringPut ys os a).length = ys.length := by
  unfold ringPut
  simp only [List.length_append, List.length_take, List.length_drop]
  omega

theorem put_get {ys os : List Int} {a : Nat} (ha : a < ys.length) (ho : os.length ≤ ys.length) (i : Nat) (hi : i < ys.length) :
    (ringPut ys os a)[(a + i) % ys.length]? = if i < os.length then os[i]? else ys[(a + i) % ys.length]? := by
  unfold ringPut
  obtain ⟨d, hd⟩ : ∃ d, d = min (a + os.length) ys.length - a := ⟨_, rfl⟩
  rw [← hd]
  simp only
  have l1 : (os.drop d).length = os.length - d := by simp
  have l2 : (ys.take a ++ os.take d).length = a + d := by simp only [List.length_append, List.length_take]; omega
  have l3 : (ys.take a).length = a := by simp only [List.length_take]; omega
  rw [List.getElem?_append, l1]
  by_cases hc : a + i < ys.length
  · rw [Nat.mod_eq_of_lt hc, if_neg (by omega), List.getElem?_drop]
    have e : os.length - d + (a + i - (os.length - d)) = a + i := by omega
    rw [e, List.getElem?_append, l2]
    by_cases h2 : i < os.length
    · rw [if_pos h2, if_pos (by omega), List.getElem?_append_right (by omega), l3, List.getElem?_take, if_pos (by omega)]
      congr 1; omega
    · rw [if_neg h2, if_neg (by omega), List.getElem?_drop]
      congr 1; omega
  · rw [wrap_mod ha hi hc]
    by_cases h2 : i < os.length
    · rw [if_pos h2, if_pos (by omega), List.getElem?_drop]
      congr 1; omega
    · rw [if_neg h2, if_neg (by omega), List.getElem?_drop]
      have e : os.length - d + (a + i - ys.length - (os.length - d)) = a + i - ys.length := by omega
      rw [e, List.getElem?_append, l2, if_pos (by omega), List.getElem?_append_left (by omega), List.getElem?_take, if_pos (by omega)]

theorem mod_at {c start at_ i : Nat} (hat : at_ ≤ i) : ((start + at_) % c + (i - at_)) % c = (start + i) % c := by
  rw [Nat.mod_add_mod]; congr 1; omega
theorem mod_before {c start at_ i : Nat} (hat : i < at_) (hc : at_ ≤ c) : ((start + at_) % c + (i + c - at_)) % c = (start + i) % c := by
  rw [Nat.mod_add_mod]
  have : start + at_ + (i + c - at_) = start + i + c := by omega
  rw [this, Nat.add_mod_right]

/-- Octets written at a position, over others or behind them. -/
theorem put_at {ys os xs : List Int} {start at_ : Nat} (hs : start < ys.length) (hx : ringTake ys start xs.length = xs) (hxl : xs.length ≤ ys.length) (hat : at_ ≤ xs.length) (hfit : at_ + os.length ≤ ys.length) (N : Nat) (hN : N = max xs.length (at_ + os.length)) :
    ringTake (ringPut ys os ((start + at_) % ys.length)) start N = xs.take at_ ++ os ++ xs.drop (at_ + os.length) := by
  have hA : (start + at_) % ys.length < ys.length := Nat.mod_lt _ (by omega)
  have hpl : (ringPut ys os ((start + at_) % ys.length)).length = ys.length := put_length (by omega) (by omega)
  have hxg : ∀ i, i < xs.length → xs[i]? = ys[(start + i) % ys.length]? := fun i hi => by
    have := take_get hs hxl i hi
    rw [hx] at this; exact this
  apply List.ext_getElem?
  intro i
  have l1 : (xs.take at_).length = at_ := by simp only [List.length_take]; omega
  have l2 : (xs.take at_ ++ os).length = at_ + os.length := by rw [List.length_append, l1]
  by_cases hi : i < N
  · rw [take_get (by rw [hpl]; exact hs) (by rw [hpl]; omega) i hi, hpl, List.getElem?_append, l2]
    by_cases h1 : at_ ≤ i
    · rw [← mod_at h1, put_get hA (by omega) (i - at_) (by omega), mod_at h1]
      by_cases h2 : i < at_ + os.length
      · rw [if_pos (by omega), if_pos h2, List.getElem?_append_right (by omega), l1]
      · rw [if_neg (by omega), if_neg h2, List.getElem?_drop, ← hxg i (by omega)]
        congr 1; omega
    · rw [← mod_before (by omega : i < at_) (by omega : at_ ≤ ys.length), put_get hA (by omega) (i + ys.length - at_) (by omega), mod_before (by omega : i < at_) (by omega : at_ ≤ ys.length)]
      rw [if_neg (by omega), if_pos (by omega), List.getElem?_append_left (by omega), List.getElem?_take, if_pos (by omega), hxg i (by omega)]
  · rw [List.getElem?_eq_none, List.getElem?_eq_none]
    · simp only [List.length_append, List.length_take, List.length_drop]; omega
    · rw [take_length (by rw [hpl]; omega) (by rw [hpl]; omega)]; omega

/-- Octets from a position on. -/
theorem take_at {ys xs : List Int} {start at_ n : Nat} (hs : start < ys.length) (hx : ringTake ys start xs.length = xs) (hxl : xs.length ≤ ys.length) (h : at_ + n ≤ xs.length) :
    ringTake ys ((start + at_) % ys.length) n = (xs.drop at_).take n := by
  have hA : (start + at_) % ys.length < ys.length := Nat.mod_lt _ (by omega)
  have hxg : ∀ i, i < xs.length → xs[i]? = ys[(start + i) % ys.length]? := fun i hi => by
    have := take_get hs hxl i hi
    rw [hx] at this; exact this
  apply List.ext_getElem?
  intro i
  by_cases hi : i < n
  · rw [take_get hA (by omega) i hi, List.getElem?_take, if_pos hi, List.getElem?_drop, hxg (at_ + i) (by omega), Nat.mod_add_mod]
    congr 2; omega
  · rw [List.getElem?_eq_none, List.getElem?_eq_none]
    · simp only [List.length_take, List.length_drop]; omega
    · rw [take_length (by omega) (by omega)]; omega

theorem take_new (xs zs : List Int) : ringTake (xs ++ zs) 0 xs.length = xs := by
  unfold ringTake
  have h : min (0 + xs.length) (xs ++ zs).length - 0 = xs.length := by rw [List.length_append]; omega
  rw [h, Nat.sub_self]
  simp
end Go.Proofs.Ytmellidlnggldaa.Ring
