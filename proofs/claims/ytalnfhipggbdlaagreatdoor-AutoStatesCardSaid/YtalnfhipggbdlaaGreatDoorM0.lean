/- Plain lists: sorted lists with the same members are one; what Compact of a sorted list is. -/
import Derived.Lib.SlicesCompact
import Derived.Sort.Walk0
namespace Go.Proofs.YtalnfhipggbdlaaGreatDoor
set_option linter.unusedVariables false
set_option linter.unusedSimpArgs false

section
variable {α : Type} {lt : α → α → Prop}
theorem eq_of_sorted (hirr : ∀ a, ¬ lt a a) (htr : ∀ a b c, lt a b → lt b c → lt a c) : ∀ {l m : List α}, l.Pairwise lt → m.Pairwise lt → (∀ x, x ∈ l ↔ x ∈ m) → l = m
  | [], [], _, _, _ => rfl
  | [], b :: m, _, _, h => by have := (h b).2 (by simp); simp at this
  | a :: l, [], _, _, h => by have := (h a).1 (by simp); simp at this
  | a :: l, b :: m, h1, h2, h => by
    obtain ⟨a1, a2⟩ := List.pairwise_cons.1 h1
    obtain ⟨b1, b2⟩ := List.pairwise_cons.1 h2
    have hab : a = b := by
      rcases List.mem_cons.1 ((h a).1 (by simp)) with e | ha
      · exact e
      · rcases List.mem_cons.1 ((h b).2 (by simp)) with e | hb
        · exact e.symm
        · exact absurd (htr _ _ _ (a1 b hb) (b1 a ha)) (hirr a)
    subst hab
    rw [eq_of_sorted hirr htr a2 b2 (fun x => ?_)]
    constructor
    · intro hx
      rcases List.mem_cons.1 ((h x).1 (by simp [hx])) with e | h'
      · subst e; exact absurd (a1 x hx) (hirr x)
      · exact h'
    · intro hx
      rcases List.mem_cons.1 ((h x).2 (by simp [hx])) with e | h'
      · subst e; exact absurd (b1 x hx) (hirr x)
      · exact h'

variable [Inhabited α] [DecidableEq α]
open Go.Lib
theorem compact_aux (hirr : ∀ a, ¬ lt a a) (htr : ∀ a b c, lt a b → lt b c → lt a c) (d : Array α) (hs : d.toList.Pairwise (fun a b => lt a b ∨ a = b)) :
    ∀ m, m ≤ d.size → (compactUpTo d m).Pairwise lt ∧ (∀ x, x ∈ compactUpTo d m ↔ ∃ j, j < m ∧ d[j]! = x) ∧ (compactUpTo d m).length ≤ m := by
  have hle : ∀ i j, i ≤ j → j < d.size → lt d[i]! d[j]! ∨ d[i]! = d[j]! := by
    intro i j hij hj
    rcases Nat.lt_or_eq_of_le hij with hlt | rfl
    · rw [List.pairwise_iff_getElem] at hs
      have := hs i j (by simp; omega) (by simp; omega) hlt
      simpa [getElem!_pos d i (by omega), getElem!_pos d j hj] using this
    · exact Or.inr rfl
  intro m
  induction m with
  | zero => intro _; exact ⟨by simp [compactUpTo], by simp [compactUpTo], by simp [compactUpTo]⟩
  | succ m ih =>
    intro hm
    obtain ⟨h1, h2, h3⟩ := ih (by omega)
    rw [compactUpTo_succ]
    by_cases hk : keeps d m = true
    · rw [if_pos hk]
      refine ⟨?_, ?_, by simp; omega⟩
      · rw [List.pairwise_append]
        refine ⟨h1, by simp, fun a ha b hb => ?_⟩
        rw [List.mem_singleton] at hb
        subst hb
        obtain ⟨j, hj, rfl⟩ := (h2 a).1 ha
        have hm0 : 0 < m := by omega
        have hne : d[m]! ≠ d[m - 1]! := by
          unfold keeps at hk
          rw [decide_eq_true_eq] at hk
          rcases hk with h | h
          · omega
          · exact h
        have hlast : lt d[m - 1]! d[m]! := by
          rcases hle (m - 1) m (by omega) (by omega) with h | h
          · exact h
          · exact absurd h.symm hne
        rcases hle j (m - 1) (by omega) (by omega) with h | h
        · exact htr _ _ _ h hlast
        · rw [h]; exact hlast
      · intro x
        rw [List.mem_append, h2, List.mem_singleton]
        constructor
        · rintro (⟨j, hj, e⟩ | e)
          · exact ⟨j, by omega, e⟩
          · exact ⟨m, by omega, e.symm⟩
        · rintro ⟨j, hj, e⟩
          by_cases hjm : j = m
          · subst hjm; exact Or.inr e.symm
          · exact Or.inl ⟨j, by omega, e⟩
    · rw [if_neg hk, List.append_nil]
      refine ⟨h1, ?_, by omega⟩
      intro x
      rw [h2]
      have hk' : ¬ (m = 0 ∨ d[m]! ≠ d[m - 1]!) := by
        intro h
        apply hk
        unfold keeps
        rw [decide_eq_true_eq]
        exact h
      constructor
      · rintro ⟨j, hj, e⟩; exact ⟨j, by omega, e⟩
      · rintro ⟨j, hj, e⟩
        by_cases hjm : j = m
        · subst hjm
          have : j ≠ 0 := fun h => hk' (Or.inl h)
          refine ⟨j - 1, by omega, ?_⟩
          rw [← e]
          exact (Classical.byContradiction fun h => hk' (Or.inr (fun e => h e.symm)))
        · exact ⟨j, by omega, e⟩
theorem compact_sorted (hirr : ∀ a, ¬ lt a a) (htr : ∀ a b c, lt a b → lt b c → lt a c) (l : List α) (hs : l.Pairwise (fun a b => lt a b ∨ a = b)) : (compact l).Pairwise lt ∧ ∀ x, x ∈ compact l ↔ x ∈ l := by
  obtain ⟨h1, h2, _⟩ := compact_aux hirr htr l.toArray (by simpa using hs) l.length (by simp)
  refine ⟨h1, fun x => ?_⟩
  unfold compact
  rw [h2]
  constructor
  · rintro ⟨j, hj, e⟩
    rw [getElem!_pos l.toArray j (by simpa using hj)] at e
    rw [← e]
    simp
  · intro hx
    obtain ⟨j, hj, e⟩ := List.getElem_of_mem hx
    exact ⟨j, hj, by rw [getElem!_pos l.toArray j (by simpa using hj)]; simpa using e⟩
end
theorem compactUpTo_len {α : Type} [Inhabited α] [DecidableEq α] (d : Array α) (m : Nat) : (Go.Lib.compactUpTo d m).length ≤ m := by
  unfold Go.Lib.compactUpTo
  rw [List.length_map]
  exact Nat.le_trans (List.length_filter_le _ _) (by simp)
theorem compact_len {α : Type} [Inhabited α] [DecidableEq α] (l : List α) : (Go.Lib.compact l).length ≤ l.length := compactUpTo_len _ _

/-! ### ints -/
def upI (l : List Int) : List Int := Go.Lib.compact (l.mergeSort fun x y => decide (x ≤ y))
theorem upI_spec (l : List Int) : (upI l).Pairwise (· < ·) ∧ ∀ x, x ∈ upI l ↔ x ∈ l := by
  have hs : (l.mergeSort fun x y => decide (x ≤ y)).Pairwise (fun a b => a < b ∨ a = b) := by
    have := List.pairwise_mergeSort (le := fun x y : Int => decide (x ≤ y)) (fun a b c h1 h2 => by simp at *; omega) (fun a b => by simp; omega) l
    exact this.imp (fun h => by simp at h; omega)
  obtain ⟨h1, h2⟩ := compact_sorted (lt := (· < ·)) (fun a => by omega) (fun a b c => by omega) _ hs
  exact ⟨h1, fun x => by unfold upI; rw [h2, (List.mergeSort_perm l _).mem_iff]⟩
theorem eqI {l m : List Int} (h1 : l.Pairwise (· < ·)) (h2 : m.Pairwise (· < ·)) (h : ∀ x, x ∈ l ↔ x ∈ m) : l = m :=
  eq_of_sorted (lt := (· < ·)) (fun a => by omega) (fun a b c => by omega) h1 h2 h
theorem upI_len (l : List Int) : (upI l).length ≤ l.length := by
  unfold upI
  exact Nat.le_trans (compact_len _) (by rw [List.length_mergeSort]; exact Nat.le_refl _)

/-! ### texts -/
theorem ltL_irr (a : List UInt8) : ¬ a < a := List.lt_irrefl a
theorem ltL_tr (a b c : List UInt8) (h1 : a < b) (h2 : b < c) : a < c := List.lt_trans h1 h2
def upL (l : List (List UInt8)) : List (List UInt8) := Go.Lib.compact (l.mergeSort fun x y => decide (x ≤ y))
theorem upL_spec (l : List (List UInt8)) : (upL l).Pairwise (· < ·) ∧ ∀ x, x ∈ upL l ↔ x ∈ l := by
  have hs : (l.mergeSort fun x y => decide (x ≤ y)).Pairwise (fun a b => a < b ∨ a = b) := by
    have := List.pairwise_mergeSort (le := fun x y : List UInt8 => decide (x ≤ y)) (fun a b c h1 h2 => by simp at *; exact List.le_trans h1 h2) (fun a b => by simp; exact List.le_total a b) l
    refine this.imp (fun {a b} h => ?_)
    simp at h
    by_cases hab : a = b
    · exact Or.inr hab
    · refine Or.inl ?_
      rcases Classical.em (a < b) with h' | h'
      · exact h'
      · exact absurd (List.le_antisymm h (List.not_lt.1 h')) hab
  obtain ⟨h1, h2⟩ := compact_sorted (lt := (· < ·)) ltL_irr ltL_tr _ hs
  exact ⟨h1, fun x => by unfold upL; rw [h2, (List.mergeSort_perm l _).mem_iff]⟩
theorem eqL {l m : List (List UInt8)} (h1 : l.Pairwise (· < ·)) (h2 : m.Pairwise (· < ·)) (h : ∀ x, x ∈ l ↔ x ∈ m) : l = m :=
  eq_of_sorted (lt := (· < ·)) ltL_irr ltL_tr h1 h2 h
theorem upL_len (l : List (List UInt8)) : (upL l).length ≤ l.length := by
  unfold upL
  exact Nat.le_trans (compact_len _) (by rw [List.length_mergeSort]; exact Nat.le_refl _)
end Go.Proofs.YtalnfhipggbdlaaGreatDoor
