/- graph.Graph while it is built: there, Len, put. -/
import Derived.Test.YtalnfhipggbdlaaGreatDoorG0
import Derived.Test.YtalnfhipggbdlaaGreatDoorP0
namespace Go.Proofs.YtalnfhipggbdlaaGreatDoor
open Go.RowKit
set_option linter.unusedVariables false
set_option linter.unusedSimpArgs false

theorem There_calls (g n c : Nat) (A : Option Addr) (u v : Value) (o : Int) (w : World) (hg : w.heap[g]? = some (.cells #[.slice A n c, u, v] 79 (0, 0))) :
    Calls Tryz.prog 58 #[.pointer (some ⟨g, 0, none⟩), .int .i64 o] w fun e w' => e = .returned (.bool (decide (0 ≤ o) && decide (o < (n : Int)))) ∧ Below w.heap.size w w' := by
  obtain ⟨h0, h1, h2, h3⟩ := set3 hg
  clear hg
  cases ho : decide (0 ≤ o) with
  | true =>
    go_enter Tryz.func58, Tryz.ntmps58
    go_wp2
    go_ret
    exact ⟨ret_bool (by simp), by go_grown⟩
  | false =>
    go_enter Tryz.func58, Tryz.ntmps58
    go_wp2
    go_ret
    exact ⟨rfl, by go_grown⟩

theorem LenG_calls (g n c : Nat) (A : Option Addr) (u v : Value) (w : World) (hg : w.heap[g]? = some (.cells #[.slice A n c, u, v] 79 (0, 0))) :
    Calls Tryz.prog 60 #[.pointer (some ⟨g, 0, none⟩)] w fun e w' => e = .returned (.int .i64 n) ∧ Below w.heap.size w w' := by
  obtain ⟨h0, h1, h2, h3⟩ := set3 hg
  clear hg
  go_enter Tryz.func60, Tryz.ntmps60
  go_wp2
  go_ret
  exact ⟨rfl, by go_grown⟩

/-! ### what is built -/
abbrev Slot := (Int × Int) ⊕ Int
def cont (E : List Edge) : Slot → List Int
  | .inl p => nextR p.2 [p.1] E
  | .inr o => fldsR [o] E
structure RowsAt (w : World) (base : Nat) (R : Slot → Value) (C : Slot → List Int) : Prop where
  own : ∀ x, w.ownsRow base 3 1 (R x) (C x).length (ints (C x))
  apart : ∀ x y k, (R x).ownBlock = some k → (R y).ownBlock = some k → x = y
/-- One row is new: it lies where it lay, or in a new block. -/
theorem RowsAt.upd {w w1 : World} {base : Nat} {R : Slot → Value} {C C' : Slot → List Int} (h : RowsAt w base R C) (x : Slot) (v : Value)
    (hv : w1.ownsRow base 3 1 v (C' x).length (ints (C' x))) (hC : ∀ y, y ≠ x → C' y = C y) (hm : ∀ y k, y ≠ x → (R y).ownBlock = some k → k < w.heap.size → w1.heap[k]? = w.heap[k]?)
    (hat : v.ownBlock = (R x).ownBlock ∨ ∃ g, v.ownBlock = some g ∧ w.heap.size ≤ g) : RowsAt w1 base (fun y => if y = x then v else R y) C' := by
  refine ⟨fun y => ?_, fun y z k hy hz => ?_⟩
  · by_cases e : y = x
    · subst e; simpa using hv
    · simp only [if_neg e]
      rw [hC y e]
      exact own_move (h.own y) (fun k hk hlt => hm y k e hk hlt)
  · by_cases ey : y = x <;> by_cases ez : z = x
    · rw [ey, ez]
    · simp only [ey, if_true, if_neg ez] at hy hz
      rcases hat with hat | ⟨g, hat, hg⟩
      · rw [hat] at hy; rw [ey]; exact (h.apart x z k hy hz)
      · rw [hat] at hy; injection hy with hy; have := (own_lt (h.own z) k hz).2; omega
    · simp only [ez, if_true, if_neg ey] at hy hz
      rcases hat with hat | ⟨g, hat, hg⟩
      · rw [hat] at hz; rw [ez]; exact (h.apart y x k hy hz)
      · rw [hat] at hz; injection hz with hz; have := (own_lt (h.own y) k hy).2; omega
    · simp only [if_neg ey, if_neg ez] at hy hz
      exact h.apart y z k hy hz
theorem RowsAt.below {w w1 : World} {base : Nat} {R : Slot → Value} {C : Slot → List Int} (h : RowsAt w base R C) (hb : Below w.heap.size w w1) : RowsAt w1 base R C := ⟨fun x => own_below (h.own x) hb, h.apart⟩
def ptr (b : Nat) : Value := .pointer (some ⟨b, 0, none⟩)
structure GC (w : World) (base gb : Nat) (T : List ByteArray) (C : Slot → List Int) (tv : Value) (nb mb : Nat) (N : Int × Int → Option Value) (R : Slot → Value) : Prop where
  g : w.heap[gb]? = some (.cells #[tv, .map (some nb), .map (some mb)] 79 (0, 0))
  t : w.ownsRow base 9 1 tv T.length (strs T)
  n : MapIs w enc2 nb N
  m : MapIs w (Value.int .i64) mb (fun o => if C (.inr o) = [] then none else some (R (.inr o)))
  ne : nb ≠ mb
  gbase : base ≤ gb
  nbase : base ≤ nb
  mbase : base ≤ mb
  rows : RowsAt w base R C
  sets : ∀ p, (N p = none ∧ C (.inl p) = []) ∨ ∃ b, base ≤ b ∧ N p = some (ptr b) ∧ w.heap[b]? = some (.cells #[R (.inl p), .slice none 0 0, .int .i64 (C (.inl p)).length] 141 (0, 0))
  inj : ∀ p q b, N p = some (ptr b) → N q = some (ptr b) → p = q
def up {α β : Type} [DecidableEq α] (F : α → β) (x : α) (v : β) : α → β := fun y => if y = x then v else F y
theorem up_at {α β : Type} [DecidableEq α] (F : α → β) (x : α) (v : β) : up F x v x = v := by simp [up]
theorem up_ne {α β : Type} [DecidableEq α] (F : α → β) (x : α) (v : β) (y : α) (h : y ≠ x) : up F x v y = F y := by simp [up, h]
section
variable {w w1 w2 : World} {base gb : Nat} {T : List ByteArray} {C : Slot → List Int} {tv : Value} {nb mb : Nat} {N : Int × Int → Option Value} {R : Slot → Value}
theorem GC.below (h : GC w base gb T C tv nb mb N R) (hb : Below w.heap.size w w1) : GC w1 base gb T C tv nb mb N R where
  g := (hb.block gb (Array.getElem?_eq_some_iff.1 h.g).1).trans h.g
  t := own_below h.t hb
  n := h.n.below hb
  m := h.m.below hb
  ne := h.ne
  gbase := h.gbase
  nbase := h.nbase
  mbase := h.mbase
  rows := h.rows.below hb
  sets := fun p => by
    rcases h.sets p with h1 | ⟨b, h1, h2, h4⟩
    · exact Or.inl h1
    · exact Or.inr ⟨b, h1, h2, (hb.block b (Array.getElem?_eq_some_iff.1 h4).1).trans h4⟩
  inj := h.inj
/-- A block that is a row of ints is no other part of the graph. -/
theorem GC.notRow (h : GC w base gb T C tv nb mb N R) {x : Slot} {k : Nat} (hk : (R x).ownBlock = some k) : k ≠ gb ∧ k ≠ nb ∧ k ≠ mb ∧ tv.ownBlock ≠ some k ∧ ∀ p b, N p = some (ptr b) → k ≠ b := by
  obtain ⟨cs, hcs⟩ := own_typed (h.rows.own x) k hk
  refine ⟨?_, ?_, ?_, ?_, ?_⟩
  · rintro rfl; have := h.g; rw [hcs] at this; simp at this
  · rintro rfl; obtain ⟨es, cl, he, _⟩ := h.n; rw [hcs] at he; simp at he
  · rintro rfl; obtain ⟨es, cl, he, _⟩ := h.m; rw [hcs] at he; simp at he
  · intro e
    obtain ⟨ds, hds⟩ := own_typed h.t k e
    rw [hcs] at hds; simp at hds
  · rintro p b hp rfl
    rcases h.sets p with ⟨h1, _⟩ | ⟨b', _, h2, h3⟩
    · rw [hp] at h1; cases h1
    · have : b' = k := by rw [hp] at h2; simpa [ptr] using h2.symm
      subst this
      rw [hcs] at h3; simp at h3
theorem GC.notSet (h : GC w base gb T C tv nb mb N R) {p : Int × Int} {b : Nat} (hp : N p = some (ptr b)) : b < w.heap.size ∧ b ≠ gb ∧ b ≠ nb ∧ b ≠ mb ∧ tv.ownBlock ≠ some b ∧ w.heap[b]? = some (.cells #[R (.inl p), .slice none 0 0, .int .i64 (C (.inl p)).length] 141 (0, 0)) ∧ base ≤ b := by
  rcases h.sets p with ⟨h1, _⟩ | ⟨b', hbb, h2, h3⟩
  · rw [hp] at h1; cases h1
  · have : b' = b := by rw [hp] at h2; simpa [ptr] using h2.symm
    subst this
    refine ⟨(Array.getElem?_eq_some_iff.1 h3).1, ?_, ?_, ?_, ?_, h3, hbb⟩
    · rintro rfl; have := h.g; rw [h3] at this; simp at this
    · rintro rfl; obtain ⟨es, cl, he, _⟩ := h.n; rw [h3] at he; simp at he
    · rintro rfl; obtain ⟨es, cl, he, _⟩ := h.m; rw [h3] at he; simp at he
    · intro e
      obtain ⟨ds, hds⟩ := own_typed h.t b' e
      rw [h3] at hds; simp at hds
/-- A number was added to a set. -/
theorem GC.added (h : GC w base gb T C tv nb mb N R) {p : Int × Int} {b : Nat} (hp : N p = some (ptr b)) {v : Value} {l : List Int} (hm : Mv (fun k => k = b ∨ (R (.inl p)).ownBlock = some k) w w1)
    (hb : w1.heap[b]? = some (.cells #[v, .slice none 0 0, .int .i64 l.length] 141 (0, 0))) (hv : w1.ownsRow base 3 1 v l.length (ints l)) (hat : v.ownBlock = (R (.inl p)).ownBlock ∨ ∃ g, v.ownBlock = some g ∧ w.heap.size ≤ g) :
    GC w1 base gb T (up C (.inl p) l) tv nb mb N (up R (.inl p) v) := by
  obtain ⟨s1, s2, s3, s4, s5, s6, s7⟩ := h.notSet hp
  have hfar : ∀ k, k ≠ b → (∀ q, (R (.inl p)).ownBlock = some q → q ≠ k) → k < w.heap.size → w1.heap[k]? = w.heap[k]? := fun k h1 h2 hlt => hm.block k hlt (fun e => by rcases e with e | e; exact h1 e; exact h2 k e rfl)
  have hC : ∀ o, up C (.inl p) l (.inr o) = C (.inr o) := fun o => up_ne _ _ _ _ (by simp)
  have hR : ∀ o, up R (.inl p) v (.inr o) = R (.inr o) := fun o => up_ne _ _ _ _ (by simp)
  refine ⟨?_, ?_, ?_, ?_, h.ne, h.gbase, h.nbase, h.mbase, ?_, ?_, h.inj⟩
  · rw [hfar gb (Ne.symm s2) (fun q hq => (h.notRow hq).1) (Array.getElem?_eq_some_iff.1 h.g).1]; exact h.g
  · exact own_move h.t (fun k hk hlt => hfar k (fun e => s5 (by rw [hk, e])) (fun q hq e => (h.notRow hq).2.2.2.1 (by rw [hk, e])) hlt)
  · exact h.n.move (hfar nb (Ne.symm s3) (fun q hq => (h.notRow hq).2.1) h.n.lt)
  · simp only [hC, hR]
    exact h.m.move (hfar mb (Ne.symm s4) (fun q hq => (h.notRow hq).2.2.1) h.m.lt)
  · refine h.rows.upd (.inl p) v (by rw [up_at]; exact hv) (fun y hy => up_ne _ _ _ _ hy) (fun y k hy hk hlt => hfar k ?_ (fun q hq e => hy ?_) hlt) hat
    · exact fun e => (h.notRow hk).2.2.2.2 p b hp e
    · subst e; exact h.rows.apart y _ q hk hq
  · intro q
    by_cases e : q = p
    · subst e
      exact Or.inr ⟨b, s7, hp, by rw [up_at, up_at]; exact hb⟩
    · have hne : (Sum.inl q : Slot) ≠ .inl p := fun h => e (Sum.inl.inj h)
      rw [up_ne _ _ _ _ hne, up_ne _ _ _ _ hne]
      rcases h.sets q with h1 | ⟨b', h1, h2, h3⟩
      · exact Or.inl h1
      · refine Or.inr ⟨b', h1, h2, ?_⟩
        rw [hfar b' (fun e' => e (h.inj q p b' h2 (by rw [e']; exact hp))) (fun k hk e' => (h.notRow hk).2.2.2.2 q b' h2 e') (Array.getElem?_eq_some_iff.1 h3).1]
        exact h3
/-- A set was made and put. -/
theorem GC.newset (h : GC w base gb T C tv nb mb N R) {p : Int × Int} (hp : N p = none) {b : Nat} (hbb : base ≤ b) (hb0 : w.heap[b]? = some (.cells #[.slice none 0 0, .slice none 0 0, .int .i64 0] 141 (0, 0))) (hfr : ∀ q, N q ≠ some (ptr b))
    (hg : w.grownBy w1 (some nb)) (hst : ∀ m' : Int × Int → Option Value, m' p = some (ptr b) → (∀ y, y ≠ p → m' y = N y) → MapIs w1 enc2 nb m') :
    GC w1 base gb T C tv nb mb (up N p (some (ptr b))) (up R (.inl p) (.slice none 0 0)) := by
  have hCp : C (.inl p) = [] := by
    rcases h.sets p with ⟨_, h1⟩ | ⟨b', _, h2, _⟩
    · exact h1
    · rw [hp] at h2; cases h2
  have hfar : ∀ k, k ≠ nb → k < w.heap.size → w1.heap[k]? = w.heap[k]? := fun k h1 hlt => hg.block k hlt (fun e => h1 (Option.some.inj e))
  have hbn : b ≠ nb := by rintro rfl; obtain ⟨es, cl, he, _⟩ := h.n; rw [hb0] at he; simp at he
  have hR : ∀ o, up R (.inl p) (.slice none 0 0) (.inr o) = R (.inr o) := fun o => up_ne _ _ _ _ (by simp)
  refine ⟨?_, ?_, hst _ (up_at _ _ _) (fun y hy => up_ne _ _ _ _ hy), ?_, h.ne, h.gbase, h.nbase, h.mbase, ?_, ?_, ?_⟩
  · rw [hfar gb (by rintro rfl; obtain ⟨es, cl, he, _⟩ := h.n; have := h.g; rw [this] at he; simp at he) (Array.getElem?_eq_some_iff.1 h.g).1]; exact h.g
  · exact own_move h.t (fun k hk hlt => hfar k (by rintro rfl; obtain ⟨es, cl, he, _⟩ := h.n; obtain ⟨ds, hds⟩ := own_typed h.t k hk; rw [hds] at he; simp at he) hlt)
  · simp only [hR]
    exact h.m.move (hfar mb (Ne.symm h.ne) h.m.lt)
  · refine ⟨fun y => ?_, fun y z k hy hz => ?_⟩
    · by_cases e : y = .inl p
      · subst e
        rw [up_at, hCp]
        exact own_nil _ _ _ _
      · rw [up_ne _ _ _ _ e]
        exact own_move (h.rows.own y) (fun k hk hlt => hfar k (h.notRow hk).2.1 hlt)
    · by_cases ey : y = .inl p
      · subst ey; rw [up_at] at hy; simp [Value.ownBlock] at hy
      · by_cases ez : z = .inl p
        · subst ez; rw [up_at] at hz; simp [Value.ownBlock] at hz
        · rw [up_ne _ _ _ _ ey] at hy
          rw [up_ne _ _ _ _ ez] at hz
          exact h.rows.apart y z k hy hz
  · intro q
    by_cases e : q = p
    · subst e
      refine Or.inr ⟨b, hbb, up_at _ _ _, ?_⟩
      rw [hfar b hbn (Array.getElem?_eq_some_iff.1 hb0).1, up_at, hCp]
      exact hb0
    · rw [up_ne _ _ _ _ e, up_ne _ _ _ _ (fun h => e (Sum.inl.inj h))]
      rcases h.sets q with h1 | ⟨b', h1, h2, h3⟩
      · exact Or.inl h1
      · refine Or.inr ⟨b', h1, h2, ?_⟩
        rw [hfar b' (h.notSet h2).2.2.1 (Array.getElem?_eq_some_iff.1 h3).1]
        exact h3
  · intro q r b' hq hr
    by_cases eq : q = p <;> by_cases er : r = p
    · rw [eq, er]
    · rw [eq, up_at] at hq
      rw [up_ne _ _ _ _ er] at hr
      have : b = b' := by simpa [ptr] using hq
      subst this
      exact absurd hr (hfr r)
    · rw [er, up_at] at hr
      rw [up_ne _ _ _ _ eq] at hq
      have : b = b' := by simpa [ptr] using hr
      subst this
      exact absurd hq (hfr q)
    · rw [up_ne _ _ _ _ eq] at hq
      rw [up_ne _ _ _ _ er] at hr
      exact h.inj q r b' hq hr
/-- A list of fields was changed, then put. -/
theorem GC.byrow (h : GC w base gb T C tv nb mb N R) {o : Int} {v : Value} {l : List Int} (hne : l ≠ []) (hg1 : w.grownBy w1 (R (.inr o)).ownBlock) (hv : w1.ownsRow base 3 1 v l.length (ints l)) (hat : v.ownBlock = (R (.inr o)).ownBlock ∨ ∃ g, v.ownBlock = some g ∧ w.heap.size ≤ g)
    (hg : w1.grownBy w2 (some mb)) (hst : ∀ m' : Int → Option Value, m' o = some v → (∀ y, y ≠ o → m' y = (fun o => if C (.inr o) = [] then none else some (R (.inr o))) y) → MapIs w2 (Value.int .i64) mb m') :
    GC w2 base gb T (up C (.inr o) l) tv nb mb N (up R (.inr o) v) := by
  have hfar : ∀ k, k ≠ mb → (∀ q, (R (.inr o)).ownBlock = some q → q ≠ k) → k < w.heap.size → w2.heap[k]? = w.heap[k]? := fun k h1 h2 hlt =>
    (hg.block k (Nat.lt_of_lt_of_le hlt hg1.size) (fun e => h1 (Option.some.inj e))).trans (hg1.block k hlt (fun e => h2 k e.symm rfl))
  have hC : ∀ p, up C (.inr o) l (.inl p) = C (.inl p) := fun o => up_ne _ _ _ _ (by simp)
  have hR : ∀ p, up R (.inr o) v (.inl p) = R (.inl p) := fun o => up_ne _ _ _ _ (by simp)
  have hvm : v.ownBlock ≠ some mb := fun e => by
    obtain ⟨ds, hds⟩ := own_typed hv mb e
    rcases hat with h1 | ⟨g, h1, h2⟩
    · rw [h1] at e; exact (h.notRow e).2.2.1 rfl
    · rw [h1] at e; have := Option.some.inj e; have := h.m.lt; omega
  refine ⟨?_, ?_, ?_, ?_, h.ne, h.gbase, h.nbase, h.mbase, ?_, ?_, h.inj⟩
  · rw [hfar gb (by rintro rfl; obtain ⟨es, cl, he, _⟩ := h.m; have := h.g; rw [this] at he; simp at he) (fun q hq => (h.notRow hq).1) (Array.getElem?_eq_some_iff.1 h.g).1]; exact h.g
  · exact own_move h.t (fun k hk hlt => hfar k (by rintro rfl; obtain ⟨es, cl, he, _⟩ := h.m; obtain ⟨ds, hds⟩ := own_typed h.t k hk; rw [hds] at he; simp at he) (fun q hq e => (h.notRow hq).2.2.2.1 (by rw [hk, e])) hlt)
  · exact h.n.move (hfar nb h.ne (fun q hq => (h.notRow hq).2.1) h.n.lt)
  · refine hst _ ?_ (fun y hy => ?_)
    · simp only [up_at, if_neg hne]
    · simp only [up_ne C _ _ _ (fun e => hy (Sum.inr.inj e) : (Sum.inr y : Slot) ≠ .inr o), up_ne R _ _ _ (fun e => hy (Sum.inr.inj e) : (Sum.inr y : Slot) ≠ .inr o)]
  · refine h.rows.upd (.inr o) v (by rw [up_at]; exact own_move hv (fun k hk hlt => hg.block k hlt (fun e => hvm (by rw [hk]; exact e)))) (fun y hy => up_ne _ _ _ _ hy) (fun y k hy hk hlt => hfar k ?_ (fun q hq e => hy ?_) hlt) hat
    · exact (h.notRow hk).2.2.1
    · subst e; exact h.rows.apart y _ q hk hq
  · intro q
    rw [hC, hR]
    rcases h.sets q with h1 | ⟨b', h1, h2, h3⟩
    · exact Or.inl h1
    · refine Or.inr ⟨b', h1, h2, ?_⟩
      rw [hfar b' (h.notSet h2).2.2.2.1 (fun k hk e' => (h.notRow hk).2.2.2.2 q b' h2 e') (Array.getElem?_eq_some_iff.1 h3).1]
      exact h3
end

theorem Search_quiet (l : List Int) (x : Int) (v : Value) (ok : Nat → Prop) (w : World) (hl : RdI w ok v l) (hb : l.length < 1000000000) (hs : l.Pairwise (· ≤ ·)) :
    Calls Tryz.prog 80 #[v, .int .i64 x] w fun e w' => e = .returned (.tuple #[.int .i64 (l.countP (· < x) : Nat), .bool (l.contains x)]) ∧ ∃ q, w' = w.drewN q := by
  rcases Nat.eq_zero_or_pos l.length with h0 | hp
  · obtain ⟨A, c, rfl, _, _⟩ := Rd.form hl
    have hl0 : l = [] := List.eq_nil_of_length_eq_zero h0
    subst hl0
    refine (Tryz.slices_BinarySearch_int_empty A c x w).mono ?_
    rintro e w' ⟨rfl, rfl⟩
    exact ⟨rfl, 0, rfl⟩
  · obtain ⟨b, o, c, rfl, hc, hm, _, _, hcell⟩ := Rd.plain hl (by rw [ints_length]; exact hp)
    refine (Tryz.slices_BinarySearch_int b o l.length c l x w (Nat.le_refl _) (by omega) (fun j hj => hcell j _ (by simp [ints, getD_at l j 0 hj, hj])) (by rw [List.take_length]; exact hs)).mono ?_
    rintro e w' ⟨rfl, q, rfl⟩
    rw [List.take_length]
    exact ⟨rfl, q, rfl⟩
/-- What the map of fields tells. -/
theorem GC.byval {w : World} {base gb : Nat} {T : List ByteArray} {C : Slot → List Int} {tv : Value} {nb mb : Nat} {N : Int × Int → Option Value} {R : Slot → Value} (h : GC w base gb T C tv nb mb N R) (o : Int) :
    ∃ vo, (∀ x : World, x.heap[mb]? = w.heap[mb]? → (Instr.lookup 77 (.map (some mb)) (.int .i64 o) false).run Tryz.prog x = .ok vo x) ∧ w.ownsRow base 3 1 vo (C (.inr o)).length (ints (C (.inr o))) ∧ (vo = R (.inr o) ∨ vo = .slice none 0 0) := by
  by_cases hc : C (.inr o) = []
  · refine ⟨.slice none 0 0, fun x hx => ?_, by rw [hc]; exact own_nil _ _ _ _, Or.inr rfl⟩
    have := (h.m.move hx).look key3 und77 (zv39 x) o false
    simpa [hc] using this
  · refine ⟨R (.inr o), fun x hx => ?_, h.rows.own _, Or.inl rfl⟩
    have := (h.m.move hx).look key3 und77 (zv39 x) o false
    simpa [hc] using this

theorem cont_other (E : List Edge) (o f t : Int) (y : Slot) (h1 : y ≠ .inl (o, f)) (h2 : y ≠ .inr o) : cont (E ++ [(o, f, t)]) y = cont E y := by
  cases y with
  | inl p =>
    show nextR p.2 [p.1] (E ++ [(o, f, t)]) = nextR p.2 [p.1] E
    rw [nextR_snoc, if_neg]
    rintro ⟨h3, h4⟩
    have h4 := (has_one _ _).1 h4
    exact h1 (by obtain ⟨a, b⟩ := p; simp_all)
  | inr q =>
    show fldsR [q] (E ++ [(o, f, t)]) = fldsR [q] E
    rw [fldsR_snoc, if_neg]
    rintro (h3 | h3)
    · simp at h3
    · have h3 : o = q := (has_one _ _).1 h3
      exact h2 (by rw [h3])
theorem cont_set (E : List Edge) (o f t : Int) : cont (E ++ [(o, f, t)]) (.inl (o, f)) = ins t (nextR f [o] E) := by
  show nextR f [o] (E ++ [(o, f, t)]) = _
  rw [nextR_snoc, if_pos ⟨rfl, (has_one _ _).2 rfl⟩]
theorem cont_by (E : List Edge) (o f t : Int) : cont (E ++ [(o, f, t)]) (.inr o) = ins f (fldsR [o] E) := by
  show fldsR [o] (E ++ [(o, f, t)]) = _
  rw [fldsR_snoc, if_pos (Or.inr ((has_one _ _).2 rfl))]

theorem cont_old (E : List Edge) (o f t : Int) (h : f ∈ fldsR [o] E) : cont (E ++ [(o, f, t)]) = up (cont E) (.inl (o, f)) (ins t (nextR f [o] E)) := by
  funext y
  by_cases h1 : y = .inl (o, f)
  · subst h1; rw [up_at, cont_set]
  · rw [up_ne _ _ _ _ h1]
    by_cases h2 : y = .inr o
    · subst h2
      rw [cont_by, ins_mem_eq _ _ (fldsR_up _ _) h]; rfl
    · exact cont_other E o f t y h1 h2
theorem cont_new (E : List Edge) (o f t : Int) : cont (E ++ [(o, f, t)]) = up (up (cont E) (.inr o) (ins f (fldsR [o] E))) (.inl (o, f)) (ins t (nextR f [o] E)) := by
  funext y
  by_cases h1 : y = .inl (o, f)
  · subst h1; rw [up_at, cont_set]
  · rw [up_ne _ _ _ _ h1]
    by_cases h2 : y = .inr o
    · subst h2; rw [up_at, cont_by]
    · rw [up_ne _ _ _ _ h2]; exact cont_other E o f t y h1 h2

/-- What is there: just fields that lead on. -/
def Has (E : List Edge) (N : Int × Int → Option Value) : Prop := ∀ p, (N p).isSome = true ↔ p.2 ∈ fldsR [p.1] E
theorem has_snoc {E : List Edge} {N : Int × Int → Option Value} (h : Has E N) (o f t : Int) {u : Value} : Has (E ++ [(o, f, t)]) (up N (o, f) (some u)) := fun p => by
  rw [fldsR_snoc]
  by_cases e : p = (o, f)
  · subst e
    rw [up_at, if_pos (Or.inr ((has_one _ _).2 rfl))]
    simp [ins_mem]
  · rw [up_ne _ _ _ _ e, h p]
    split
    · rename_i hc
      have hc' : o = p.1 := (has_one _ _).1 (hc.resolve_left (by simp))
      rw [ins_mem]
      constructor
      · exact Or.inr
      · rintro (h1 | h1)
        · exact absurd (Prod.ext hc'.symm h1) e
        · exact h1
    · rfl

set_option maxRecDepth 100000 in
set_option maxHeartbeats 1000000 in
theorem Put_calls (T : List ByteArray) (E : List Edge) (o f t : Int) (base gb : Nat) (tv : Value) (nb mb : Nat) (N : Int × Int → Option Value) (R : Slot → Value) (w : World) (hG : GC w base gb T (cont E) tv nb mb N R) (hH : Has E N) (hE : E.length < 1000000)
    (hok : ∀ e ∈ E, 0 ≤ e.2.2 ∧ e.2.2 < 8) (ht : 0 ≤ t ∧ t < 8) :
    Calls Tryz.prog 59 #[ptr gb, enc2 (o, f), .int .i64 t] w fun e w' => e = .returned (.tuple #[]) ∧ Mv (fun k => base ≤ k) w w' ∧ ∃ N' R', GC w' base gb T (cont (E ++ [(o, f, t)])) tv nb mb N' R' ∧ Has (E ++ [(o, f, t)]) N' := by
  obtain ⟨h0, h1, h2, h3⟩ := set3 hG.g
  have hgl : gb < w.heap.size := (Array.getElem?_eq_some_iff.1 hG.g).1
  have HG := As.mk hG
  have HOK := As.mk hok
  have HH := As.mk hH
  clear hG hok hH
  unfold ptr enc2
  have hb1 : Below w.heap.size w (w.alloc (.cells #[.int .i64 o, .int .i64 f] 83)) := by go_grown
  have HB1 := As.mk hb1
  have a0 := cell_below hb1 h0
  have a1 := cell_below hb1 h1
  have a2 := cell_below hb1 h2
  have b0 : (w.alloc (.cells #[.int .i64 o, .int .i64 f] 83)).cell? ⟨w.heap.size, 0, none⟩ = some (.int .i64 o) := by simp
  have b1 : (w.alloc (.cells #[.int .i64 o, .int .i64 f] 83)).cell? ⟨w.heap.size, 1, none⟩ = some (.int .i64 f) := by simp
  have HUP := As.mk (nextR_up f [o] E)
  have HK := As.mk (nextR_okO f [o] E HOK.out)
  have HL8 := As.mk (okO_len HK.out HUP.out)
  obtain ⟨hn, hne⟩ | ⟨b, hbb, hn, hbl⟩ := HG.out.sets (o, f)
  · have HN := As.mk hn
    have HE0 := As.mk hne
    have hlk : ∀ n : Nat, (Instr.lookup 76 (.map (some nb)) (.agg #[.int .i64 o, .int .i64 f]) true).run Tryz.prog ((w.alloc (.cells #[.int .i64 o, .int .i64 f] 83)).drewN n) = .ok (.tuple #[.pointer none, .bool false]) ((w.alloc (.cells #[.int .i64 o, .int .i64 f] 83)).drewN n) := fun n => by
      have := (HG.out.n.move (w1 := (w.alloc (.cells #[.int .i64 o, .int .i64 f] 83)).drewN n) (hb1.block nb (HG.out.n.lt))).look key83 und76 (zv122 _) (o, f) true
      rw [HN.out] at this
      exact this
    clear hn hne
    go_enter Tryz.func59, Tryz.ntmps59
    go_wp2
    generalize w.alloc (.cells #[.int .i64 o, .int .i64 f] 83) = w1 at *
    clear hb1
    go_quiet (fail)
    generalize nq = n1 at *
    have hbq : Below w1.heap.size w1 (w1.drewN n1) := below_drewN (Below.refl _ _) _
    have HGQ := As.mk ((HG.out.below HB1.out).below hbq)
    have HBQ := As.mk (below_seq HB1.out hbq)
    clear hlk hbq
    replace a0 : (w1.drewN n1).cell? ⟨gb, 0, none⟩ = _ := a0
    replace a1 : (w1.drewN n1).cell? ⟨gb, 1, none⟩ = _ := a1
    replace a2 : (w1.drewN n1).cell? ⟨gb, 2, none⟩ = _ := a2
    replace b0 : (w1.drewN n1).cell? ⟨w.heap.size, 0, none⟩ = _ := b0
    replace b1 : (w1.drewN n1).cell? ⟨w.heap.size, 1, none⟩ = _ := b1
    generalize w1.drewN n1 = w2 at *
    go_wp2_with (go_at_call 79; refine (Of_calls _).mono ?_; rintro e w3 ⟨b, rfl, hbl, hb3, hb3'⟩; have HB3 := As.mk hb3; have HB3' := As.mk hb3'; have c0 := cell_below hb3' a0; have c1 := cell_below hb3' a1; have c2 := cell_below hb3' a2; have d0 := cell_below hb3' b0; have d1 := cell_below hb3' b1; clear hb3 hb3' a0 a1 a2 b0 b1)
    go_still_tail 6, (by kernel_rfl)
    change wpList _ _ _ _ _ w3.drew
    have hbd : Below w3.heap.size w3 w3.drew := (Below.refl _ _).drew
    replace c0 : w3.drew.cell? ⟨gb, 0, none⟩ = _ := c0
    replace c1 : w3.drew.cell? ⟨gb, 1, none⟩ = _ := c1
    replace c2 : w3.drew.cell? ⟨gb, 2, none⟩ = _ := c2
    replace d0 : w3.drew.cell? ⟨w.heap.size, 0, none⟩ = _ := d0
    replace d1 : w3.drew.cell? ⟨w.heap.size, 1, none⟩ = _ := d1
    have HG3 := As.mk ((HGQ.out.below HB3'.out).below hbd)
    have HB4 := As.mk ((hbd.block b (Array.getElem?_eq_some_iff.1 HB3.out).1).trans HB3.out)
    have HB4' := As.mk (below_seq (below_seq HBQ.out HB3'.out) hbd)
    clear hbd
    generalize w3.drew = w4 at *
    go_wp2_with (at_mapUpdate; refine wp_store _ rfl rfl _ _ _ _ rfl 83 122 key83 und76 nb N rfl HG3.out.n (o, f) rfl (ptr b) rfl ?_)
    intro w5 hg5 hz5 hst5
    have hwb : w.heap.size ≤ b := Nat.le_trans HBQ.out.size hbl
    have hfr : ∀ q, N q ≠ some (ptr b) := fun q hq => by have := (HG.out.notSet hq).1; omega
    have HG5 := As.mk (HG3.out.newset HN.out (b := b) (by have := HG.out.gbase; omega) HB4.out hfr hg5 hst5)
    have HB5 : As (Mv (fun k => base ≤ k) w w5) := ⟨(Mv.of_self HB4'.out _).trans ((Mv.of_grown hg5).mono (S' := fun k => base ≤ k) (fun k _ hk => by have := Option.some.inj hk; have := HG.out.nbase; omega)) (fun k _ hk => hk)⟩
    obtain ⟨vo, hvl, hvo, hvr⟩ := HG5.out.byval o
    have HVO := As.mk hvo
    have HVR := As.mk hvr
    have hnin : f ∉ fldsR [o] E := fun h => by have := (HH.out (o, f)).2 h; rw [HN.out] at this; cases this
    have hcf : (fldsR [o] E).contains f = false := by simpa using hnin
    have HSQ : As (∀ n : Nat, Calls Tryz.prog 80 #[vo, .int .i64 f] (w5.drewN n) fun e w' => e = .returned (.tuple #[.int .i64 ((fldsR [o] E).countP (· < f) : Nat), .bool false]) ∧ ∃ q, w' = (w5.drewN n).drewN q) := ⟨fun n => by
      have := Search_quiet (fldsR [o] E) f vo _ (w5.drewN n) ((own_rd HVO.out).below (below_drewN (Below.refl _ _) _)) (by have := fldsR_len [o] E E.length (Nat.le_refl _); rw [List.take_length] at this; omega) ((fldsR_up [o] E).imp (fun h => Int.le_of_lt h))
      rwa [hcf] at this⟩
    have HNIN := As.mk hnin
    have HCF := As.mk hcf
    have hgn : some gb ≠ some nb := fun e => by have e := Option.some.inj e; subst e; obtain ⟨es, cl, he, _⟩ := HG.out.n; have := HG.out.g; rw [this] at he; simp at he
    have hwn : some w.heap.size ≠ some nb := fun e => by have e := Option.some.inj e; have := HG.out.n.lt; omega
    replace c1 := cell_grown hg5 c1 hgn
    replace c2 := cell_grown hg5 c2 hgn
    replace d0 := cell_grown hg5 d0 hwn
    replace d1 := cell_grown hg5 d1 hwn
    have hlk2 : ∀ n : Nat, (Instr.lookup 77 (.map (some mb)) (.int .i64 o) false).run Tryz.prog (w5.drewN n) = .ok vo (w5.drewN n) := fun n => hvl _ rfl
    have HVL := As.mk hvl
    clear hvl hvo hvr hnin hcf hgn hwn hst5 hg5 hz5 c0 hfr
    go_wp2
    go_quiet ((go_at_call 80; exact Calls.quiet_of (HSQ.out _)))
    generalize nq = n2 at *
    have hbq : Below w5.heap.size w5 (w5.drewN n2) := below_drewN (Below.refl _ _) _
    have HG6 := As.mk (HG5.out.below hbq)
    have HB6 : As (Mv (fun k => base ≤ k) w (w5.drewN n2)) := ⟨HB5.out.trans (Mv.of_self hbq _) (fun k _ hk => hk)⟩
    have HVO6 := As.mk (own_below HVO.out hbq)
    have HVL6 : As (∀ x : World, x.heap[mb]? = (w5.drewN n2).heap[mb]? → (Instr.lookup 77 (.map (some mb)) (.int .i64 o) false).run Tryz.prog x = .ok vo x) := ⟨HVL.out⟩
    clear hlk2 hbq HSQ HVL HVO
    replace c2 : (w5.drewN n2).cell? ⟨gb, 2, none⟩ = _ := c2
    replace c1 : (w5.drewN n2).cell? ⟨gb, 1, none⟩ = _ := c1
    replace d0 : (w5.drewN n2).cell? ⟨w.heap.size, 0, none⟩ = _ := d0
    replace d1 : (w5.drewN n2).cell? ⟨w.heap.size, 1, none⟩ = _ := d1
    generalize w5.drewN n2 = w6 at *
    have hml := HG6.out.m.lt
    have hlk6 : (Instr.lookup 77 (.map (some mb)) (.int .i64 o) false).run Tryz.prog w6.drew = .ok vo w6.drew := HVL6.out _ rfl
    have hlk7 : (Instr.lookup 77 (.map (some mb)) (.int .i64 o) false).run Tryz.prog (w6.drew.alloc (.cells #[.int .i64 f] 3)) = .ok vo (w6.drew.alloc (.cells #[.int .i64 f] 3)) := HVL6.out _ (Below.heap_alloc w6.drew _ _ hml)
    have hlk8 : (Instr.lookup 77 (.map (some mb)) (.int .i64 o) false).run Tryz.prog (w6.alloc (.cells #[.int .i64 f] 3)).drew = .ok vo (w6.alloc (.cells #[.int .i64 f] 3)).drew := HVL6.out _ (Below.heap_alloc w6 _ _ hml)
    have hgm : some gb ≠ some mb := fun e => by have e := Option.some.inj e; subst e; obtain ⟨es, cl, he, _⟩ := HG6.out.m; have := HG6.out.g; rw [this] at he; simp at he
    have hwm : some w.heap.size ≠ some mb := fun e => by have e := Option.some.inj e; have := HG.out.m.lt; omega
    obtain ⟨W7, hW7⟩ : ∃ W7, W7 = (w6.alloc (.cells #[.int .i64 f] 3)).drew := ⟨_, rfl⟩
    have hb7 : Below w6.heap.size w6 W7 := by rw [hW7]; exact (World.grownBy_alloc w6 _ none |> fun h => ⟨h.os, h.tape, h.output, h.size, fun k hk => h.block k hk (by simp)⟩ : Below w6.heap.size w6 (w6.alloc (.cells #[.int .i64 f] 3))).drew
    have hvb7 : W7.heap[w6.heap.size]? = some (.cells #[.int .i64 f] 3 (0, 0)) := by rw [hW7]; exact heap_alloc_new w6 _
    have HVO7 := own_below HVO6.out hb7
    have HINS : As (Calls Tryz.prog 81 #[vo, .int .i64 ((fldsR [o] E).countP (· < f) : Nat), .slice (some ⟨w6.heap.size, 0, none⟩) 1 1] W7 fun e w' => ∃ v' w'', e = .returned v' ∧ (Instr.mapUpdate 77 (.map (some mb)) (.int .i64 o) v').run Tryz.prog w' = .ok () w'' ∧
        (w'.cell? ⟨gb, 2, none⟩ = some (.map (some mb)) ∧ w'.cell? ⟨w.heap.size, 0, none⟩ = some (.int .i64 o) ∧ w'.cell? ⟨w.heap.size, 1, none⟩ = some (.int .i64 f)) ∧
        (w''.cell? ⟨gb, 2, none⟩ = some (.map (some mb)) ∧ w''.cell? ⟨w.heap.size, 0, none⟩ = some (.int .i64 o) ∧ w''.cell? ⟨w.heap.size, 1, none⟩ = some (.int .i64 f)) ∧
        As (GC w'' base gb T (up (cont E) (.inr o) (ins f (fldsR [o] E))) tv nb mb (up N (o, f) (some (ptr b))) (up (up R (.inl (o, f)) (.slice none 0 0)) (.inr o) v')) ∧ As (Mv (fun k => base ≤ k) w w'')) := ⟨by
      have hlen : (fldsR [o] E).length < 1000000000 := by have := fldsR_len [o] E E.length (Nat.le_refl _); rw [List.take_length] at this; omega
      refine (Insert_calls (fldsR [o] E) ((fldsR [o] E).countP (· < f)) f base w6.heap.size vo W7 HVO7 List.countP_le_length hlen hvb7 (fun e => by have := (own_lt HVO6.out _ e.symm).2; omega) (by have := hb7.size; have := HB6.out.size; have := HG.out.gbase; omega)).mono ?_
      rintro e w8 ⟨v8, rfl, ho8, hg8, ha8⟩
      have HGX := HG6.out.below hb7
      have hins : putAt (fldsR [o] E) ((fldsR [o] E).countP (· < f)) f = ins f (fldsR [o] E) := by
        rw [ins_sorted f _ (fldsR_up [o] E), HCF.out]; rfl
      have hil : (fldsR [o] E).length + 1 = (ins f (fldsR [o] E)).length := by rw [← hins, putAt_len _ _ _ List.countP_le_length]
      rw [hins, hil] at ho8
      have hgr : W7.grownBy w8 (up R (.inl (o, f)) (.slice none 0 0) (.inr o)).ownBlock ∧ (v8.ownBlock = (up R (.inl (o, f)) (.slice none 0 0) (.inr o)).ownBlock ∨ ∃ g, v8.ownBlock = some g ∧ W7.heap.size ≤ g) := by
        rcases HVR.out with h | h
        · rw [← h]
          refine ⟨hg8, ?_⟩
          rcases ha8 with h' | h'
          · exact Or.inl h'
          · exact Or.inr ⟨_, h', Nat.le_refl _⟩
        · rw [h] at hg8 ha8
          refine ⟨⟨hg8.os, hg8.tape, hg8.output, hg8.size, fun k hk _ => hg8.block k hk (by simp [Value.ownBlock])⟩, Or.inr ?_⟩
          rcases ha8 with h' | h'
          · obtain ⟨g, cap, cur, hv, _⟩ := own_form ho8 (by rw [← hil]; omega)
            rw [hv] at h'
            simp [Value.ownBlock] at h'
          · exact ⟨_, h', Nat.le_refl _⟩
      obtain ⟨w9, hrun, hg9, hz9, hst9⟩ := (HGX.m.move (hgr.1.block mb (HGX.m.lt) (fun e => (HGX.notRow e.symm).2.2.1 rfl))).store key3 und77 o v8
      have hrow : ∀ q, (up R (.inl (o, f)) (.slice none 0 0) (.inr o)).ownBlock = some q → base ≤ q ∧ q ≠ gb ∧ q ≠ w.heap.size := fun q hq => by
        refine ⟨(own_lt (HGX.rows.own _) q hq).1, (HGX.notRow hq).1, ?_⟩
        rintro rfl
        obtain ⟨cs, hcs⟩ := own_typed (HG.out.rows.own (.inr o)) w.heap.size (by rw [up_ne _ _ _ _ (by simp)] at hq; exact hq)
        have := (Array.getElem?_eq_some_iff.1 hcs).1
        omega
      have x2 := cell_grown hgr.1 (cell_below hb7 c2) (fun e => (hrow _ e.symm).2.1 rfl)
      have y0 := cell_grown hgr.1 (cell_below hb7 d0) (fun e => (hrow _ e.symm).2.2 rfl)
      have y1 := cell_grown hgr.1 (cell_below hb7 d1) (fun e => (hrow _ e.symm).2.2 rfl)
      refine ⟨v8, w9, rfl, hrun, ⟨x2, y0, y1⟩, ⟨cell_grown hg9 x2 hgm, cell_grown hg9 y0 hwm, cell_grown hg9 y1 hwm⟩, ⟨HGX.byrow (ins_ne _ _) hgr.1 ho8 hgr.2 hg9 hst9⟩, ⟨?_⟩⟩
      refine ((HB6.out.trans (Mv.of_self hb7 _) (fun k _ hk => hk)).trans ((Mv.of_grown hgr.1).mono (S' := fun k => base ≤ k) (fun k _ hk => (hrow k hk).1)) (fun k _ hk => hk)).trans ((Mv.of_grown hg9).mono (S' := fun k => base ≤ k) (fun k _ hk => ?_)) (fun k _ hk => hk)
      have := Option.some.inj hk
      have := HG6.out.mbase
      omega⟩
    rw [hW7] at HINS
    clear HVL6 HVO7 hvb7 hb7 hW7
    go_wp2
    go_region_held3 (fun w' => w'.cell? ⟨gb, 2, none⟩ = some (.map (some mb)) ∧ w'.cell? ⟨w.heap.size, 0, none⟩ = some (.int .i64 o) ∧ w'.cell? ⟨w.heap.size, 1, none⟩ = some (.int .i64 f))
      (first | go_keep | assumption)
      ((go_at_call 81; refine (HINS.out).mono ?_; rintro e w8 ⟨v8, w9, rfl, hrun, hs8, hs9, hgc9, hmv9⟩))
    all_goals
      have HS9 := As.mk (hgc9.out.notSet (up_at N (o, f) (some (ptr b))))
      have HO9 := As.mk (hgc9.out.rows.own (.inl (o, f)))
      have HBB9 : As (w9.heap[b]? = some (.cells #[up (up R (.inl (o, f)) (.slice none 0 0)) (.inr o) v8 (.inl (o, f)), .slice none 0 0, .int .i64 (nextR f [o] E).length] 141 (0, 0))) := ⟨by
        have := HS9.out.2.2.2.2.2.1
        rwa [up_ne (cont E) _ _ _ (by simp : (Sum.inl (o, f) : Slot) ≠ .inr o)] at this⟩
      have HOO9 : As (w9.ownsRow base 3 1 (up (up R (.inl (o, f)) (.slice none 0 0)) (.inr o) v8 (.inl (o, f))) (nextR f [o] E).length (ints (nextR f [o] E))) := ⟨by
        have := HO9.out
        rwa [up_ne (cont E) _ _ _ (by simp : (Sum.inl (o, f) : Slot) ≠ .inr o)] at this⟩
      have HBZ : As (base ≤ w9.heap.size) := ⟨by have := hmv9.out.size; have := HG.out.gbase; omega⟩
      obtain ⟨RR, hRR⟩ : ∃ RR, RR = up (up R (.inl (o, f)) (.slice none 0 0)) (.inr o) v8 := ⟨_, rfl⟩
      rw [← hRR] at HBB9 HOO9
      clear hs8 hs9 hrun
      go_wp2_with (go_at_call 82; refine (Add_calls (nextR f [o] E) t b base (RR (.inl (o, f))) _ HBB9.out HOO9.out HUP.out (Nat.lt_of_le_of_lt HL8.out (by decide)) ⟨ht.1, Int.lt_trans ht.2 (by decide)⟩ HBZ.out).mono ?_; rintro e w10 ⟨v10, rfl, hb10, ho10, hm10, ha10⟩)
      go_end0
      refine ⟨rfl, ?_, up N (o, f) (some (ptr b)), up RR (.inl (o, f)) v10, ?_, has_snoc HH.out o f t⟩
      · refine hmv9.out.trans (hm10.mono (S' := fun k => base ≤ k) (fun k _ hk => ?_)) (fun k _ hk => hk)
        rcases hk with rfl | hk
        · exact HS9.out.2.2.2.2.2.2
        · exact (own_lt HOO9.out k hk).1
      · rw [cont_new]
        have := hgc9.out
        rw [← hRR] at this
        exact this.added (up_at N (o, f) (some (ptr b))) hm10 hb10 ho10 ha10
  · have HN := As.mk hn
    have HBL := As.mk hbl
    have hlk : ∀ n : Nat, (Instr.lookup 76 (.map (some nb)) (.agg #[.int .i64 o, .int .i64 f]) true).run Tryz.prog ((w.alloc (.cells #[.int .i64 o, .int .i64 f] 83)).drewN n) = .ok (.tuple #[ptr b, .bool true]) ((w.alloc (.cells #[.int .i64 o, .int .i64 f] 83)).drewN n) := fun n => by
      have := (HG.out.n.move (w1 := (w.alloc (.cells #[.int .i64 o, .int .i64 f] 83)).drewN n) (hb1.block nb (HG.out.n.lt))).look key83 und76 (zv122 _) (o, f) true
      rw [HN.out] at this
      exact this
    clear hn hbl
    go_enter Tryz.func59, Tryz.ntmps59
    go_wp2
    generalize w.alloc (.cells #[.int .i64 o, .int .i64 f] 83) = w1 at *
    clear hb1
    go_quiet (fail)
    generalize nq = n1 at *
    have hbq : Below w1.heap.size w1 (w1.drewN n1) := below_drewN (Below.refl _ _) _
    have HGQ := As.mk ((HG.out.below HB1.out).below hbq)
    have HBQ := As.mk (below_seq HB1.out hbq)
    clear hlk a0 a1 a2 b0 b1 hbq
    generalize w1.drewN n1 = w2 at *
    have HBL2 := As.mk ((HBQ.out.block b (Array.getElem?_eq_some_iff.1 HBL.out).1).trans HBL.out)
    have HO2 := As.mk (HGQ.out.rows.own (.inl (o, f)))
    have HBZ : As (base ≤ w2.heap.size) := ⟨Nat.le_trans (Nat.le_trans HG.out.gbase (Nat.le_of_lt hgl)) HBQ.out.size⟩
    go_wp2_with (go_at_call 82; refine (Add_calls (nextR f [o] E) t b base (R (.inl (o, f))) _ HBL2.out HO2.out HUP.out (Nat.lt_of_le_of_lt HL8.out (by decide)) ⟨ht.1, Int.lt_trans ht.2 (by decide)⟩ HBZ.out).mono ?_; rintro e w3 ⟨v3, rfl, hb3, ho3, hm3, ha3⟩)
    go_end0
    have hf : f ∈ fldsR [o] E := (HH.out (o, f)).1 (by rw [HN.out]; rfl)
    refine ⟨rfl, ?_, N, up R (.inl (o, f)) v3, ?_, ?_⟩
    · refine (Mv.of_self HBQ.out _).trans (hm3.mono (S' := fun k => base ≤ k) (fun k _ hk => ?_)) (fun k _ hk => hk)
      rcases hk with rfl | hk
      · exact hbb
      · exact (own_lt HO2.out k hk).1
    · rw [cont_old E o f t hf]
      exact HGQ.out.added HN.out hm3 hb3 ho3 ha3
    · have := has_snoc HH.out o f t (u := ptr b)
      have he : up N (o, f) (some (ptr b)) = N := by
        funext q
        by_cases hq : q = (o, f)
        · subst hq; rw [up_at, HN.out]
        · exact up_ne _ _ _ _ hq
      rwa [he] at this
end Go.Proofs.YtalnfhipggbdlaaGreatDoor
