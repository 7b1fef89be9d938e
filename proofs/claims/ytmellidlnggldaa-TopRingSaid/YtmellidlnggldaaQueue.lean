/- Queues: what a queue is in memory, Len, Room, NewQueue. -/
import Derived.Test.YtmellidlnggldaaMoves
import Derived.Test.YtmellidlnggldaaBook5
namespace Go.Proofs.Ytmellidlnggldaa.Ring
set_option linter.unusedVariables false
open Go.RowKit Go.Proofs.YtmellidlnggldaaW.PrintWords Go.Proofs.YtmellidlnggldaaW.PrintLast Go.Proofs.YtmellidlnggldaaW.PrintMore Go.Proofs.Ytmellidlnggldaa.Book Go.Proofs.Ytmellidlnggldaa.Oct Go.Proofs.Ytmellidlnggldaa.Pure
set_option linter.unusedSimpArgs false

/-- A chunk: its memory's block, where the octets begin and end, what the memory holds. -/
structure Chk where
  g : Nat
  frm : Nat
  tt : Nat
  ys : List Int

def Chk.cells (c : Chk) : List Value := [.slice (some ⟨c.g, 0, none⟩) c.ys.length c.ys.length, .int .i64 c.frm, .int .i64 c.tt]
def Chk.out (c : Chk) : List Int := (c.ys.drop c.frm).take (c.tt - c.frm)
def qcells (cs : List Chk) : List Value := (cs.map Chk.cells).flatten
def qout (cs : List Chk) : List Int := (cs.map Chk.out).flatten
def qroom (cs : List Chk) : Nat := (cs.map fun c => c.ys.length).sum

theorem qcells_length (cs : List Chk) : (qcells cs).length = cs.length * 3 := by
  induction cs with
  | nil => rfl
  | cons a l ih =>
    have : qcells (a :: l) = a.cells ++ qcells l := rfl
    rw [this, List.length_append, ih]
    simp only [Chk.cells, List.length_cons, List.length_nil]
    omega
theorem qcells_app (xs zs : List Chk) : qcells (xs ++ zs) = qcells xs ++ qcells zs := by simp [qcells]
theorem qout_app (xs zs : List Chk) : qout (xs ++ zs) = qout xs ++ qout zs := by simp [qout]
theorem qroom_app (xs zs : List Chk) : qroom (xs ++ zs) = qroom xs + qroom zs := by simp [qroom]
theorem qcells_one (cs : List Chk) : ∀ u ∈ qcells cs, u.oneCell' = true := by
  intro u hu
  unfold qcells at hu
  rw [List.mem_flatten] at hu
  obtain ⟨l, hl, hu⟩ := hu
  obtain ⟨c, _, rfl⟩ := List.mem_map.1 hl
  simp only [Chk.cells, List.mem_cons, List.not_mem_nil, or_false] at hu
  rcases hu with rfl | rfl | rfl <;> rfl
theorem qcells_get (cs : List Chk) (k : Nat) (c : Chk) (h : cs[k]? = some c) (i : Nat) (v : Value) (hv : c.cells[i]? = some v) : (qcells cs)[k * 3 + i]? = some v := by
  have hi : i < 3 := by
    have := (List.getElem?_eq_some_iff.1 hv).1
    simpa [Chk.cells] using this
  induction cs generalizing k with
  | nil => simp at h
  | cons a l ih =>
    have e : qcells (a :: l) = a.cells ++ qcells l := rfl
    have e3 : a.cells.length = 3 := rfl
    cases k with
    | zero =>
      have : a = c := by simpa using h
      subst this
      rw [e, List.getElem?_append_left (by omega)]
      simpa using hv
    | succ k =>
      rw [e, List.getElem?_append_right (by omega), e3]
      have := ih k (by simpa using h)
      rw [← this]
      congr 1; omega
theorem Chk.out_length {c : Chk} (h : c.tt ≤ c.ys.length) : c.out.length = c.tt - c.frm := by
  unfold Chk.out
  simp only [List.length_take, List.length_drop]
  omega
theorem take_snoc (cs : List Chk) (k : Nat) (c : Chk) (h : cs[k]? = some c) : cs.take (k + 1) = cs.take k ++ [c] := by
  rw [List.take_add_one, h]; rfl
theorem qout_take (cs : List Chk) (k : Nat) (c : Chk) (h : cs[k]? = some c) : qout (cs.take (k + 1)) = qout (cs.take k) ++ c.out := by
  rw [take_snoc cs k c h, qout_app]; simp [qout]
theorem qroom_take (cs : List Chk) (k : Nat) (c : Chk) (h : cs[k]? = some c) : qroom (cs.take (k + 1)) = qroom (cs.take k) + c.ys.length := by
  rw [take_snoc cs k c h, qroom_app]; simp [qroom]
theorem qout_le (cs : List Chk) (k : Nat) : (qout (cs.take k)).length ≤ (qout cs).length := by
  conv => rhs; rw [← List.take_append_drop k cs, qout_app, List.length_append]
  omega
theorem qroom_le (cs : List Chk) (k : Nat) : qroom (cs.take k) ≤ qroom cs := by
  conv => rhs; rw [← List.take_append_drop k cs, qroom_app]
  omega

def queueCells (p : Nat) (o k s m size : Int) (cl : Bool) (qv : Value) : Obj := .cells #[.pointer (some ⟨p, 0, none⟩), .int .i64 o, .int .i64 k, .int .i64 s, .int .i64 m, .int .i64 size, .bool cl, qv] 67

/-- A queue in memory. -/
structure QueueAt (w : World) (qa p : Nat) (o k s m size : Int) (qv : Value) (cs : List Chk) : Prop where
  head : w.heap[qa]? = some (queueCells p o k s m size false qv)
  own : w.ownsRow 0 73 3 qv cs.length (qcells cs)
  rows : ∀ c ∈ cs, Row w c.g c.ys
  fits : ∀ c ∈ cs, c.frm ≤ c.tt ∧ c.tt ≤ c.ys.length ∧ c.ys.length ≤ 100000
  same : ∀ c ∈ cs, (c.ys.length : Int) = (rgGrow k s m 0 size).1
  apart : (cs.map (·.g)).Nodup
  few : cs.length ≤ 500
  len : (qout cs).length ≤ 100000

def QFoot (qa : Nat) (qv : Value) (cs : List Chk) (j : Nat) : Prop := j = qa ∨ some j = qv.ownBlock ∨ j ∈ cs.map (·.g)

theorem own_shape {w : World} {e : TypeId} {size n : Nat} {v : Value} {xs : List Value} (h : w.ownsRow 0 e size v n xs) : ∃ A cap, v = .slice A n cap := by
  rcases h.2 with ⟨rfl, rfl⟩ | ⟨g, cap, cur, rfl, _⟩
  · exact ⟨none, 0, rfl⟩
  · exact ⟨_, _, rfl⟩
theorem chunkAt {w : World} {A : Option Addr} {n cap : Nat} {cs : List Chk} (h : w.ownsRow 0 73 3 (.slice A n cap) n (qcells cs)) (k : Nat) (c : Chk) (hx : cs[k]? = some c) :
    ∃ g, A = some ⟨g, 0, none⟩ ∧ w.cell? ⟨g, k * 3, none⟩ = some (.slice (some ⟨c.g, 0, none⟩) c.ys.length c.ys.length) ∧ w.cell? ⟨g, k * 3 + 1, none⟩ = some (.int .i64 c.frm) ∧ w.cell? ⟨g, k * 3 + 2, none⟩ = some (.int .i64 c.tt) := by
  have hl := h.1
  rw [qcells_length] at hl
  have hk := (List.getElem?_eq_some_iff.1 hx).1
  rcases h.2 with ⟨e, h0⟩ | ⟨g, c1, cur, e, _⟩
  · omega
  · injection e with e1 e2 e3
    subst e1; subst e3
    have hc := h.cells (g := g) rfl
    refine ⟨g, rfl, ?_, ?_, ?_⟩
    · have := hc (k * 3 + 0) _ (qcells_get cs k c hx 0 _ rfl)
      rwa [add_zero'] at this
    · have := hc (k * 3 + 1) _ (qcells_get cs k c hx 1 _ rfl)
      rwa [add_zero'] at this
    · have := hc (k * 3 + 2) _ (qcells_get cs k c hx 2 _ rfl)
      rwa [add_zero'] at this

section
variable {w w' : World} {qa p : Nat} {o k s m size : Int} {qv : Value} {cs : List Chk}
theorem QueueAt.lt (h : QueueAt w qa p o k s m size qv cs) {j : Nat} (hj : QFoot qa qv cs j) : j < w.heap.size := by
  rcases hj with rfl | hj | hj
  · exact blk_lt h.head
  · exact own_lt' h.own hj
  · obtain ⟨c, hc, rfl⟩ := List.mem_map.1 hj
    exact (h.rows c hc).lt
theorem QueueAt.frame (h : QueueAt w qa p o k s m size qv cs) (hh : ∀ j, QFoot qa qv cs j → w'.heap[j]? = w.heap[j]?) : QueueAt w' qa p o k s m size qv cs where
  head := (hh qa (.inl rfl)).trans h.head
  own := own_frame h.own (fun j hj => hh j (.inr (.inl hj)))
  rows := fun c hc => (hh c.g (.inr (.inr (List.mem_map_of_mem hc)))).trans (h.rows c hc)
  fits := h.fits
  same := h.same
  apart := h.apart
  few := h.few
  len := h.len
theorem QueueAt.below (h : QueueAt w qa p o k s m size qv cs) (hb : Below w.heap.size w w') : QueueAt w' qa p o k s m size qv cs := h.frame (fun j hj => hb.block j (h.lt hj))
theorem QueueAt.upd {S : Nat → Prop} (h : QueueAt w qa p o k s m size qv cs) (hu : Upd S w w') (hS : ∀ j, QFoot qa qv cs j → ¬ S j) : QueueAt w' qa p o k s m size qv cs := h.frame (fun j hj => hu.block j (h.lt hj) (hS j hj))
theorem QueueAt.not_book {b : BookS} {q : Parts} (h : QueueAt w qa p o k s m size qv cs) (hB : BookAt w p b q) {j : Nat} (hj : QFoot qa qv cs j) : ¬ q.Foot p j := by
  rcases hj with rfl | hj | hj
  · exact not_foot hB h.head (by decide) (by decide) (by decide) (by decide)
  · obtain ⟨cur, hc⟩ := own_typed h.own j hj.symm
    exact not_foot hB hc (by decide) (by decide) (by decide) (by decide)
  · obtain ⟨c, hc, rfl⟩ := List.mem_map.1 hj
    exact row_foot hB (h.rows c hc)
theorem QueueAt.room_le (h : QueueAt w qa p o k s m size qv cs) : qroom cs ≤ cs.length * 100000 := by
  have hf := h.fits
  clear h
  induction cs with
  | nil => simp [qroom]
  | cons a l ih =>
    have := ih (fun c hc => hf c (by simp [hc]))
    have h1 := (hf a (by simp)).2.2
    have e : qroom (a :: l) = a.ys.length + qroom l := by simp [qroom]
    rw [e, List.length_cons]
    omega
end

theorem queue_cells {w : World} {qa p : Nat} {o k s m size : Int} {cl : Bool} {qv : Value} (h : w.heap[qa]? = some (queueCells p o k s m size cl qv)) :
    w.cell? ⟨qa, 0, none⟩ = some (.pointer (some ⟨p, 0, none⟩)) ∧ w.cell? ⟨qa, 1, none⟩ = some (.int .i64 o) ∧ w.cell? ⟨qa, 2, none⟩ = some (.int .i64 k) ∧ w.cell? ⟨qa, 3, none⟩ = some (.int .i64 s) ∧ w.cell? ⟨qa, 4, none⟩ = some (.int .i64 m) ∧ w.cell? ⟨qa, 5, none⟩ = some (.int .i64 size) ∧ w.cell? ⟨qa, 6, none⟩ = some (.bool cl) ∧ w.cell? ⟨qa, 7, none⟩ = some qv := by
  refine ⟨?_, ?_, ?_, ?_, ?_, ?_, ?_, ?_⟩ <;> rw [blk_cell h] <;> rfl

set_option maxHeartbeats 1000000 in
set_option maxRecDepth 100000 in
theorem qlen {w : World} {qa p : Nat} {o k s m size : Int} {qv : Value} {cs : List Chk} (hQ : QueueAt w qa p o k s m size qv cs) :
    Calls Try.prog 16 #[.pointer (some ⟨qa, 0, none⟩)] w fun e w' => e = .returned (.int .i64 (qout cs).length) ∧ Below w.heap.size w w' := by
  have HQ := Aside0.mk hQ
  obtain ⟨h0, h1, h2, h3, h4, h5, h6, h7⟩ := queue_cells hQ.head
  obtain ⟨A, cap, rfl⟩ := own_shape hQ.own
  have hfew := hQ.few
  obtain ⟨f, hf⟩ : ∃ f : Nat → Nat, f = fun n => (qout (cs.take n)).length := ⟨_, rfl⟩
  have h00 : f 0 = 0 := by rw [hf]; rfl
  have HF := Lib.hid hf
  obtain ⟨N, hN⟩ : ∃ N, N = cs.length := ⟨_, rfl⟩
  have HN := Lib.hid hN
  have HE : Hid ((qout cs).length = f N) := Lib.hid (by rw [hf, hN]; simp)
  rw [HE.out]
  rw [← hN] at h7 hfew
  clear hQ h0 h1 h2 h3 h4 h5 h6 hf hN
  go_enter Try.func16, Try.ntmps16
  go_wp2_with fail
  go_loopw [3, 5, 11] (fun s3 _ i wr => ∃ n : Nat, n ≤ N ∧ i = .int .i64 n ∧ s3 = .int .i64 (f n) ∧ Aside0 (Below w.heap.size w wr)) (fun _ _ i _ => N - (intOf i).toNat)
  case atStart => exact ⟨0, Nat.zero_le _, rfl, by rw [h00]; rfl, ⟨Below.refl _ _⟩⟩
  case round =>
    obtain ⟨n, hn, rfl, rfl, HB⟩ := hrel
    by_cases hlt : n < N
    · obtain ⟨c, hc⟩ : ∃ c, cs[n]? = some c := ⟨_, List.getElem?_eq_getElem (by rw [← HN.out]; exact hlt)⟩
      have HQr := Aside0.mk (HQ.out.below HB.out)
      obtain ⟨g, rfl, c0, c1, c2⟩ := chunkAt HQr.out.own n c hc
      obtain ⟨f1, f2, f3⟩ := HQ.out.fits c (List.mem_of_getElem? hc)
      have hs : f (n + 1) = f n + (c.tt - c.frm) := by
        rw [HF.out]; simp only
        rw [qout_take cs n c hc, List.length_append, Chk.out_length f2]
      have hle : f (n + 1) ≤ 100000 := by
        rw [HF.out]; have := HQ.out.len; have := qout_le cs (n + 1); simp only; omega
      have hle2 := hs ▸ hle
      have HS := Lib.hid hs
      clear hs hc hle
      go_wp2_with fail
      go_round
      case rel => exact ⟨n + 1, by omega, by go_num, by rw [HS.out]; go_num, ⟨below_alloc HB.out _⟩⟩
      case measure => simp [intOf]; omega
    · obtain rfl : n = N := by omega
      go_wp2_with fail
      go_ret
      exact ⟨rfl, HB.out⟩

set_option maxHeartbeats 1000000 in
set_option maxRecDepth 100000 in
theorem qroomOf {w : World} {qa p : Nat} {o k s m size : Int} {qv : Value} {cs : List Chk} (hQ : QueueAt w qa p o k s m size qv cs) :
    Calls Try.prog 18 #[.pointer (some ⟨qa, 0, none⟩)] w fun e w' => e = .returned (.int .i64 (qroom cs)) ∧ Below w.heap.size w w' := by
  have HQ := Aside0.mk hQ
  obtain ⟨h0, h1, h2, h3, h4, h5, h6, h7⟩ := queue_cells hQ.head
  obtain ⟨A, cap, rfl⟩ := own_shape hQ.own
  have hfew := hQ.few
  obtain ⟨f, hf⟩ : ∃ f : Nat → Nat, f = fun n => qroom (cs.take n) := ⟨_, rfl⟩
  have h00 : f 0 = 0 := by rw [hf]; rfl
  have HF := Lib.hid hf
  obtain ⟨N, hN⟩ : ∃ N, N = cs.length := ⟨_, rfl⟩
  have HN := Lib.hid hN
  have HE : Hid (qroom cs = f N) := Lib.hid (by rw [hf, hN]; simp)
  rw [HE.out]
  rw [← hN] at h7 hfew
  clear hQ h0 h1 h2 h3 h4 h5 h6 hf hN
  go_enter Try.func18, Try.ntmps18
  go_wp2_with fail
  go_loopw [3, 5, 11] (fun s3 _ i wr => ∃ n : Nat, n ≤ N ∧ i = .int .i64 n ∧ s3 = .int .i64 (f n) ∧ Aside0 (Below w.heap.size w wr)) (fun _ _ i _ => N - (intOf i).toNat)
  case atStart => exact ⟨0, Nat.zero_le _, rfl, by rw [h00]; rfl, ⟨Below.refl _ _⟩⟩
  case round =>
    obtain ⟨n, hn, rfl, rfl, HB⟩ := hrel
    by_cases hlt : n < N
    · obtain ⟨c, hc⟩ : ∃ c, cs[n]? = some c := ⟨_, List.getElem?_eq_getElem (by rw [← HN.out]; exact hlt)⟩
      have HQr := Aside0.mk (HQ.out.below HB.out)
      obtain ⟨g, rfl, c0, c1, c2⟩ := chunkAt HQr.out.own n c hc
      obtain ⟨f1, f2, f3⟩ := HQ.out.fits c (List.mem_of_getElem? hc)
      have hs : f (n + 1) = f n + c.ys.length := by
        rw [HF.out]; simp only
        rw [qroom_take cs n c hc]
      have hle : f (n + 1) ≤ 50000000 := by
        rw [HF.out]; have h9 := HQ.out.room_le; have := qroom_le cs (n + 1); have := HQ.out.few; simp only; omega
      have hle2 := hs ▸ hle
      have HS := Lib.hid hs
      clear hs hc hle
      go_wp2_with fail
      go_round
      case rel => exact ⟨n + 1, by omega, by go_num, by rw [HS.out]; go_num, ⟨below_alloc HB.out _⟩⟩
      case measure => simp [intOf]; omega
    · obtain rfl : n = N := by omega
      go_wp2_with fail
      go_ret
      exact ⟨rfl, HB.out⟩

theorem withinQ (a lo hi : Int) (w : World) : Calls Try.prog 23 #[.int .i64 a, .int .i64 lo, .int .i64 hi] w fun e w' => e = .returned (.bool (decide (lo ≤ a ∧ a ≤ hi))) ∧ ∃ m, w' = w.drewN m := by
  refine (PTopRing.ring_within.calls a lo hi _ w ?_).mono fun e w' ⟨he, hd⟩ => ⟨he, hd.out⟩
  unfold PTopRing.ring_within.f
  by_cases h1 : lo ≤ a <;> by_cases h2 : a ≤ hi <;> simp [h1, h2]

set_option maxHeartbeats 1000000 in
set_option maxRecDepth 100000 in
theorem newQueue {p : Nat} {b : BookS} {q : Parts} {w : World} (hB : BookAt w p b q) (o k s m size : Int) :
    Calls Try.prog 8 #[.pointer (some ⟨p, 0, none⟩), .int .i64 o, .agg #[.int .i64 k, .int .i64 s, .int .i64 m], .int .i64 size] w fun e w' =>
      ((∃ err, err ≠ 0 ∧ e = .returned (.tuple #[.pointer none, .int .i64 err])) ∨ ∃ r, e = .returned (.tuple #[.pointer (some ⟨r, 0, none⟩), .int .i64 0]) ∧ w.heap.size ≤ r ∧ QueueAt w' r p o k s m size (.slice none 0 0) [] ∧ rgFault k s m = 0 ∧ 1 ≤ size ∧ size ≤ m ∧ size ≤ 100000) ∧ Below w.heap.size w w' := by
  have HB := Aside0.mk hB
  clear hB
  have HX := Aside0.mk (show (w.alloc (.cells #[.int .i64 k, .int .i64 s, .int .i64 m] 23)).heap[w.heap.size]? = some (.cells #[.int .i64 k, .int .i64 s, .int .i64 m] 23) from blk_new w _)
  by_cases hf : rgFault k s m = 0
  · by_cases hin : 1 ≤ size ∧ size ≤ 100000
    · have hdi : decide (1 ≤ size ∧ size ≤ 100000) = true := decide_eq_true hin
      by_cases hfull : m < size
      · have hdf : decide (m < size) = true := decide_eq_true hfull
        go_enter Try.func8, Try.ntmps8
        go_wp2_with (first | (go_at_call 22; refine (checkPolicy _ _ _ _).mono ?_; rintro e w1 ⟨rfl, h1⟩; rw [hf]; obtain ⟨hb0, hb1, hb2⟩ := box_cells (box_later h1); have H1 := Aside0.mk h1; clear h1) | (go_at_call 23; refine (withinQ _ _ _ _).mono ?_; rintro e w2 ⟨rfl, m2, rfl⟩; rw [hdi]))
        go_ret2
        exact ⟨.inl ⟨12, by decide, rfl⟩, pw_below_drewN (below_then (below_alloc (Below.refl _ _) _) (by simp) H1.out) _⟩
      · have hdf : decide (m < size) = false := decide_eq_false hfull
        by_cases hh : (heldS b o).2 = 0
        · go_enter Try.func8, Try.ntmps8
          go_wp2_with (first | (go_at_call 22; refine (checkPolicy _ _ _ _).mono ?_; rintro e w1 ⟨rfl, h1⟩; rw [hf]; obtain ⟨hb0, hb1, hb2⟩ := box_cells (box_later h1); have H1 := Aside0.mk h1; clear h1) | (go_at_call 23; refine (withinQ _ _ _ _).mono ?_; rintro e w2 ⟨rfl, m2, rfl⟩; rw [hdi]) | (go_at_call 14; refine (held (HB.out.frame (fun k hk => by show w1.heap[k]? = w.heap[k]?; exact (H1.out.block k (by rw [alloc_size]; have := HB.out.lt hk; omega)).trans (Below.heap_alloc _ _ k (HB.out.lt hk)))) o).mono ?_; rintro e w3 ⟨rfl, rfl⟩; rw [hh]))
          go_ret2
          have hsz : w.heap.size ≤ w1.heap.size := by have := H1.out.size; simp at this; omega
          exact ⟨.inr ⟨_, rfl, hsz, ⟨by exact blk_new _ _, own_nil _ _ _ _, fun c hc => by simp at hc, fun c hc => by simp at hc, fun c hc => by simp at hc, by simp, Nat.zero_le _, by simp [qout]⟩, hf, hin.1, by omega, hin.2⟩, below_alloc (pw_below_drewN (below_then (below_alloc (Below.refl _ _) _) (by simp) H1.out) _) _⟩
        · have hne : ((heldS b o).2 != 0) = true := bne_iff_ne.2 hh
          go_enter Try.func8, Try.ntmps8
          go_wp2_with (first | (go_at_call 22; refine (checkPolicy _ _ _ _).mono ?_; rintro e w1 ⟨rfl, h1⟩; rw [hf]; obtain ⟨hb0, hb1, hb2⟩ := box_cells (box_later h1); have H1 := Aside0.mk h1; clear h1) | (go_at_call 23; refine (withinQ _ _ _ _).mono ?_; rintro e w2 ⟨rfl, m2, rfl⟩; rw [hdi]) | (go_at_call 14; refine (held (HB.out.frame (fun k hk => by show w1.heap[k]? = w.heap[k]?; exact (H1.out.block k (by rw [alloc_size]; have := HB.out.lt hk; omega)).trans (Below.heap_alloc _ _ k (HB.out.lt hk)))) o).mono ?_; rintro e w3 ⟨rfl, rfl⟩))
          go_ret2
          exact ⟨.inl ⟨_, hh, rfl⟩, pw_below_drewN (below_then (below_alloc (Below.refl _ _) _) (by simp) H1.out) _⟩
    · have hdi : decide (1 ≤ size ∧ size ≤ 100000) = false := decide_eq_false hin
      go_enter Try.func8, Try.ntmps8
      go_wp2_with (first | (go_at_call 22; refine (checkPolicy _ _ _ _).mono ?_; rintro e w1 ⟨rfl, h1⟩; rw [hf]; obtain ⟨hb0, hb1, hb2⟩ := box_cells (box_later h1); have H1 := Aside0.mk h1; clear h1) | (go_at_call 23; refine (withinQ _ _ _ _).mono ?_; rintro e w2 ⟨rfl, m2, rfl⟩; rw [hdi]))
      go_ret2
      exact ⟨.inl ⟨2, by decide, rfl⟩, pw_below_drewN (below_then (below_alloc (Below.refl _ _) _) (by simp) H1.out) _⟩
  · have hne : (rgFault k s m != 0) = true := bne_iff_ne.2 hf
    go_enter Try.func8, Try.ntmps8
    go_wp2_with (first | (go_at_call 22; refine (checkPolicy _ _ _ _).mono ?_; rintro e w1 ⟨rfl, h1⟩; have H1 := Aside0.mk h1; clear h1))
    go_ret2
    exact ⟨.inl ⟨_, hf, rfl⟩, below_then (below_alloc (Below.refl _ _) _) (by simp) H1.out⟩
end Go.Proofs.Ytmellidlnggldaa.Ring
