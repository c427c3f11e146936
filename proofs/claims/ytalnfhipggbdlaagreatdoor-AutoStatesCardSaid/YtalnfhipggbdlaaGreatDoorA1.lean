/- auto.Auto while it is built: state. -/
import Derived.Test.YtalnfhipggbdlaaGreatDoorX1
namespace Go.Proofs.YtalnfhipggbdlaaGreatDoor
open Go.RowKit
set_option linter.unusedVariables false
set_option linter.unusedSimpArgs false

theorem set4 {w : World} {b : Nat} {x y z u : Value} {t : TypeId} (h : w.heap[b]? = some (.cells #[x, y, z, u] t (0, 0))) :
    w.cell? ⟨b, 0, none⟩ = some x ∧ w.cell? ⟨b, 1, none⟩ = some y ∧ w.cell? ⟨b, 2, none⟩ = some z ∧ w.cell? ⟨b, 3, none⟩ = some u ∧ ∀ o, w.frozen? ⟨b, o, none⟩ = false := by
  simp [World.cell?, World.frozen?, h]
theorem set4_put1 {w : World} {b : Nat} {x y z u : Value} {t : TypeId} (h : w.heap[b]? = some (.cells #[x, y, z, u] t (0, 0))) (v : Value) : (w.setCell ⟨b, 1, none⟩ v).heap[b]? = some (.cells #[x, v, z, u] t (0, 0)) := by
  simp [World.setCell, Array.getElem?_modify, h]

def mutA (ab st id : Nat) (sv : Value) (q : Nat) : Prop := q = ab ∨ q = st ∨ q = id ∨ sv.ownBlock = some q
structure AC (w : World) (base ab gb : Nat) (sv : Value) (st id : Nat) (S : List (List Int)) (m : ByteArray → Option Value) (K : Int × Int → Option Int) : Prop where
  a : w.heap[ab]? = some (.cells #[ptr gb, sv, .map (some st), .map (some id)] 87 (0, 0))
  abase : base ≤ ab
  sbase : base ≤ st
  ibase : base ≤ id
  ne : st ≠ id
  rows : ∃ vs : List Value, vs.length = S.length ∧ w.ownsRow base 39 1 sv S.length vs ∧ ∀ (i : Nat) x u, S[i]? = some x → vs[i]? = some u → RdI w (fun q => ¬ mutA ab st id sv q) u x
  st : MapIs w enc2 st (fun p => (K p).map (Value.int .i64))
  ids : MapIs w Value.string id m
  idm : ∀ x, okO x → m (txt x) = if find x S < 0 then none else some (.int .i64 (find x S))
  oks : ∀ x ∈ S, okO x
section
variable {w w1 : World} {base ab gb : Nat} {sv : Value} {st id : Nat} {S : List (List Int)} {m : ByteArray → Option Value} {K : Int × Int → Option Int}
theorem AC.below (h : AC w base ab gb sv st id S m K) (hb : Below w.heap.size w w1) : AC w1 base ab gb sv st id S m K where
  a := cell_block_below hb h.a
  abase := h.abase
  sbase := h.sbase
  ibase := h.ibase
  ne := h.ne
  rows := by
    obtain ⟨vs, h1, h2, h3⟩ := h.rows
    exact ⟨vs, h1, own_below h2 hb, fun i x u hx hu => (h3 i x u hx hu).below hb⟩
  st := h.st.below hb
  ids := h.ids.below hb
  idm := h.idm
  oks := h.oks
theorem AC.far (h : AC w base ab gb sv st id S m K) : ab ≠ st ∧ ab ≠ id ∧ sv.ownBlock ≠ some ab ∧ sv.ownBlock ≠ some st ∧ sv.ownBlock ≠ some id := by
  obtain ⟨vs, h1, h2, h3⟩ := h.rows
  refine ⟨?_, ?_, ?_, ?_, ?_⟩
  · rintro rfl; obtain ⟨es, cl, he, _⟩ := h.st; have := h.a; rw [this] at he; simp at he
  · rintro rfl; obtain ⟨es, cl, he, _⟩ := h.ids; have := h.a; rw [this] at he; simp at he
  · intro e; obtain ⟨cs, hcs⟩ := own_typed h2 _ e; have := h.a; rw [hcs] at this; simp at this
  · intro e; obtain ⟨cs, hcs⟩ := own_typed h2 _ e; obtain ⟨es, cl, he, _⟩ := h.st; rw [hcs] at he; simp at he
  · intro e; obtain ⟨cs, hcs⟩ := own_typed h2 _ e; obtain ⟨es, cl, he, _⟩ := h.ids; rw [hcs] at he; simp at he
theorem AC.rd (h : AC w base ab gb sv st id S m K) : RdL w (fun q => ¬ (q = ab ∨ q = st ∨ q = id)) sv S := by
  obtain ⟨vs, h1, h2, h3⟩ := h.rows
  obtain ⟨f1, f2, f3, f4, f5⟩ := h.far
  refine ⟨vs, h1, (own_rd h2).mono (fun k hk _ => ?_), fun i x u hx hu => (h3 i x u hx hu).mono (fun q hq _ e => hq ?_)⟩
  · rintro (rfl | rfl | rfl)
    · exact f3 hk.1
    · exact f4 hk.1
    · exact f5 hk.1
  · rcases e with e | e | e
    · exact Or.inl e
    · exact Or.inr (Or.inl e)
    · exact Or.inr (Or.inr (Or.inl e))
theorem AC.form (h : AC w base ab gb sv st id S m K) : ∃ A c, sv = .slice A S.length c := by
  obtain ⟨vs, h1, h2, h3⟩ := h.rows
  exact own_slice h2
theorem AC.at (h : AC w base ab gb sv st id S m K) (i : Nat) (hi : i < S.length) : ∃ u, RdI w (fun q => ¬ mutA ab st id sv q) u (S.getD i []) ∧ ∀ A c, sv = .slice A S.length c → ∃ ad, A = some ad ∧ w.cell? (ad.add i) = some u := by
  obtain ⟨vs, h1, h2, h3⟩ := h.rows
  refine ⟨vs[i], by rw [getD_at S i [] hi]; exact h3 i _ _ (List.getElem?_eq_getElem hi) (List.getElem?_eq_getElem (by omega)), fun A c hsv => ?_⟩
  subst hsv
  obtain ⟨ad, hA, _, _, hc⟩ := Rd.cell (own_rd h2) i (by omega)
  exact ⟨ad, hA, hc⟩
end
theorem find_ge (s : List Int) (S : List (List Int)) : find s S = -1 ∨ 0 ≤ find s S := by
  rcases find_cases s S with ⟨h, _⟩ | ⟨k, h, _⟩ <;> omega
theorem find_lt (s : List Int) (S : List (List Int)) : find s S < S.length := by
  rcases find_cases s S with ⟨h, _⟩ | ⟨k, h, h2, _⟩ <;> omega
theorem find_snoc (x s : List Int) (S : List (List Int)) (hs : find s S < 0) : find x (S ++ [s]) = if 0 ≤ find x S then find x S else if x = s then S.length else -1 := by
  rcases find_cases x S with ⟨h1, h2⟩ | ⟨k, h1, h2, h3, h4⟩
  · rw [h1, if_neg (by omega)]
    by_cases e : x = s
    · rw [if_pos e]
      refine find_at x _ S.length (by simp) (fun i hi => ?_) ?_
      · rw [getD_at _ _ _ (by simp; omega), List.getElem_append_left hi]
        intro he; exact h2 (he ▸ List.getElem_mem hi)
      · rw [getD_at _ _ _ (by simp)]; simp [e]
    · rw [if_neg e]
      refine find_none x _ (fun i hi => ?_)
      simp at hi
      by_cases hi2 : i < S.length
      · rw [getD_at _ _ _ (by simp; omega), List.getElem_append_left hi2]
        intro he; exact h2 (he ▸ List.getElem_mem hi2)
      · have : i = S.length := by omega
        subst this
        rw [getD_at _ _ _ (by simp)]; simp; exact fun h => e h.symm
  · rw [h1, if_pos (by omega)]
    refine find_at x _ k (by simp; omega) (fun i hi => ?_) ?_
    · rw [getD_at _ _ _ (by simp; omega), List.getElem_append_left (by omega), ← getD_at S i [] (by omega)]
      exact h4 i hi
    · rw [getD_at _ _ _ (by simp; omega), List.getElem_append_left h2, ← getD_at S k [] h2]
      exact h3
/-- A state was added. -/
theorem AC.pushed {w w1 : World} {base ab gb : Nat} {sv sv' : Value} {st id : Nat} {S : List (List Int)} {m m' : ByteArray → Option Value} {K : Int × Int → Option Int} (h : AC w base ab gb sv st id S m K) {x : List Int} {u : Value}
    (hu : RdI w (fun q => ¬ mutA ab st id sv q) u x) (hx : okO x) (hf : find x S < 0) {vs : List Value} (hvl : vs.length = S.length) (hvf : ∀ (i : Nat) x u, S[i]? = some x → vs[i]? = some u → RdI w (fun q => ¬ mutA ab st id sv q) u x)
    (hm : Mv (fun k => k = ab ∨ k = id ∨ sv.ownBlock = some k) w w1) (ha : w1.heap[ab]? = some (.cells #[ptr gb, sv', .map (some st), .map (some id)] 87 (0, 0))) (ho : w1.ownsRow base 39 1 sv' (S.length + 1) (vs ++ [u]))
    (hat : sv'.ownBlock = sv.ownBlock ∨ ∃ g, sv'.ownBlock = some g ∧ w.heap.size ≤ g) (hids : MapIs w1 Value.string id m') (hm1 : m' (txt x) = some (.int .i64 S.length)) (hm2 : ∀ s, s ≠ txt x → m' s = m s) :
    AC w1 base ab gb sv' st id (S ++ [x]) m' K := by
  obtain ⟨f1, f2, f3, f4, f5⟩ := h.far
  have hrd : ∀ {u : Value} {x : List Int}, RdI w (fun q => ¬ mutA ab st id sv q) u x → RdI w1 (fun q => ¬ mutA ab st id sv' q) u x := by
    intro u x hr
    refine ((Rd.bound hr).step (fun q hq hlt => hm.block q hlt (fun e => hq.1 ?_))).mono (fun q hq hlt e => hq.1 ?_)
    · rcases e with e | e | e
      · exact Or.inl e
      · exact Or.inr (Or.inr (Or.inl e))
      · exact Or.inr (Or.inr (Or.inr e))
    · rcases e with e | e | e | e
      · exact Or.inl e
      · exact Or.inr (Or.inl e)
      · exact Or.inr (Or.inr (Or.inl e))
      · rcases hat with h' | ⟨g, h', hg⟩
        · exact Or.inr (Or.inr (Or.inr (h' ▸ e)))
        · rw [h'] at e; have := Option.some.inj e; have := hq.2; omega
  refine ⟨ha, h.abase, h.sbase, h.ibase, h.ne, ⟨vs ++ [u], by simp [hvl], by simpa using ho, fun i y z hy hz => ?_⟩, ?_, hids, ?_, ?_⟩
  · by_cases hi : i < S.length
    · rw [List.getElem?_append_left hi] at hy
      rw [List.getElem?_append_left (by omega)] at hz
      exact hrd (hvf i y z hy hz)
    · have hi2 : i = S.length := by
        have := (List.getElem?_eq_some_iff.1 hy).1
        simp at this; omega
      subst hi2
      rw [List.getElem?_append_right (by omega)] at hy hz
      rw [hvl] at hz
      simp at hy hz
      subst hy hz
      exact hrd hu
  · exact h.st.move (hm.block st h.st.lt (fun e => by
      rcases e with e | e | e
      · exact f1 e.symm
      · exact h.ne e
      · exact f4 e))
  · intro y hy
    rw [find_snoc y x S hf]
    by_cases e : y = x
    · subst e
      rw [hm1, if_neg (by omega : ¬ 0 ≤ find y S), if_pos rfl, if_neg (by omega)]
    · rw [hm2 _ (fun he => e (txt_inj y x hy hx he)), h.idm y hy, if_neg e]
      rcases find_ge y S with h1 | h1
      · rw [h1]; simp
      · rw [if_neg (by omega), if_pos h1, if_neg (by omega)]
  · intro y hy
    rcases List.mem_append.1 hy with hy | hy
    · exact h.oks y hy
    · simp at hy; subst hy; exact hx
end Go.Proofs.YtalnfhipggbdlaaGreatDoor
