/- Plain laws of the reference's Fields and Next. -/
import Derived.Test.YtalnfhipggbdlaaGreatDoorS2
namespace Go.Proofs.YtalnfhipggbdlaaGreatDoor
open Go.RowKit
set_option linter.unusedVariables false
set_option linter.unusedSimpArgs false

theorem has_mem (l : List Int) (x : Int) : has l x = true ↔ x ∈ l := by simp [has]
theorem has_one (o x : Int) : has [o] x = true ↔ x = o := by simp [has]; exact eq_comm
theorem ins_mem_eq (n : Int) (l : List Int) (hs : l.Pairwise (· < ·)) (h : n ∈ l) : ins n l = l := by
  rw [ins_sorted n l hs, if_pos (by simpa using h)]
theorem ins_ne (n : Int) (l : List Int) : ins n l ≠ [] := fun h => by
  have := (ins_mem n n l).2 (Or.inl rfl)
  rw [h] at this
  simp at this
theorem foldIf_mem {α : Type} (c : α → Prop) [DecidablePred c] (g : α → Int) (x : Int) : ∀ (E : List α) (s : List Int), x ∈ E.foldl (fun out e => if c e then ins (g e) out else out) s ↔ x ∈ s ∨ ∃ e ∈ E, c e ∧ g e = x
  | [], s => by simp
  | e :: E, s => by
    rw [List.foldl_cons, foldIf_mem c g x E]
    by_cases h : c e
    · rw [if_pos h, ins_mem]
      constructor
      · rintro ((h1 | h1) | ⟨e', h1, h2, h3⟩)
        · exact Or.inr ⟨e, by simp, h, h1.symm⟩
        · exact Or.inl h1
        · exact Or.inr ⟨e', by simp [h1], h2, h3⟩
      · rintro (h1 | ⟨e', h1, h2, h3⟩)
        · exact Or.inl (Or.inr h1)
        · rcases List.mem_cons.1 h1 with rfl | h1
          · exact Or.inl (Or.inl h3.symm)
          · exact Or.inr ⟨e', h1, h2, h3⟩
    · rw [if_neg h]
      constructor
      · rintro (h1 | ⟨e', h1, h2, h3⟩)
        · exact Or.inl h1
        · exact Or.inr ⟨e', by simp [h1], h2, h3⟩
      · rintro (h1 | ⟨e', h1, h2, h3⟩)
        · exact Or.inl h1
        · rcases List.mem_cons.1 h1 with rfl | h1
          · exact absurd h2 h
          · exact Or.inr ⟨e', h1, h2, h3⟩
theorem foldIf_up {α : Type} (c : α → Prop) [DecidablePred c] (g : α → Int) : ∀ (E : List α) (s : List Int), s.Pairwise (· < ·) → (E.foldl (fun out e => if c e then ins (g e) out else out) s).Pairwise (· < ·)
  | [], s, h => h
  | e :: E, s, h => by
    rw [List.foldl_cons]
    refine foldIf_up c g E _ ?_
    split
    · exact ins_up _ _ h
    · exact h
theorem nextR_mem (f : Int) (os : List Int) (E : List Edge) (x : Int) : x ∈ nextR f os E ↔ ∃ e ∈ E, e.2.1 = f ∧ e.1 ∈ os ∧ e.2.2 = x := by
  unfold nextR
  rw [foldIf_mem (fun e : Edge => e.2.1 = f ∧ has os e.1 = true) (fun e => e.2.2)]
  constructor
  · rintro (h | ⟨e, h1, h2, h3⟩)
    · simp at h
    · exact ⟨e, h1, h2.1, (has_mem _ _).1 h2.2, h3⟩
  · rintro ⟨e, h1, h2, h3, h4⟩
    exact Or.inr ⟨e, h1, ⟨h2, (has_mem _ _).2 h3⟩, h4⟩
theorem nextR_up (f : Int) (os : List Int) (E : List Edge) : (nextR f os E).Pairwise (· < ·) := foldIf_up _ _ _ _ List.Pairwise.nil
theorem fldsR_mem (os : List Int) (E : List Edge) (x : Int) (ho : os ≠ []) : x ∈ fldsR os E ↔ ∃ e ∈ E, e.1 ∈ os ∧ e.2.1 = x := by
  unfold fldsR
  rw [foldIf_mem (fun e : Edge => os.length = 0 ∨ has os e.1 = true) (fun e => e.2.1)]
  have h0 : os.length ≠ 0 := fun h => ho (List.eq_nil_of_length_eq_zero h)
  constructor
  · rintro (h | ⟨e, h1, h2, h3⟩)
    · simp at h
    · exact ⟨e, h1, (has_mem _ _).1 (h2.resolve_left h0), h3⟩
  · rintro ⟨e, h1, h2, h3⟩
    exact Or.inr ⟨e, h1, Or.inr ((has_mem _ _).2 h2), h3⟩
theorem fldsR_up (os : List Int) (E : List Edge) : (fldsR os E).Pairwise (· < ·) := foldIf_up _ _ _ _ List.Pairwise.nil
theorem nextR_snoc (f : Int) (os : List Int) (E : List Edge) (e : Edge) : nextR f os (E ++ [e]) = if e.2.1 = f ∧ has os e.1 = true then ins e.2.2 (nextR f os E) else nextR f os E := by
  unfold nextR; rw [List.foldl_append]; rfl
theorem fldsR_snoc (os : List Int) (E : List Edge) (e : Edge) : fldsR os (E ++ [e]) = if os.length = 0 ∨ has os e.1 = true then ins e.2.1 (fldsR os E) else fldsR os E := by
  unfold fldsR; rw [List.foldl_append]; rfl
theorem nextR_okO (f : Int) (os : List Int) (E : List Edge) (h : ∀ e ∈ E, 0 ≤ e.2.2 ∧ e.2.2 < 8) : okO (nextR f os E) := fun x hx => by
  obtain ⟨e, h1, _, _, h4⟩ := (nextR_mem f os E x).1 hx
  rw [← h4]; exact h e h1
theorem nextR_ne (f o : Int) (E : List Edge) : nextR f [o] E ≠ [] ↔ f ∈ fldsR [o] E := by
  rw [fldsR_mem [o] E f (by simp)]
  constructor
  · intro h
    cases hl : nextR f [o] E with
    | nil => exact absurd hl h
    | cons x l =>
      obtain ⟨e, h1, h2, h3, _⟩ := (nextR_mem f [o] E x).1 (by rw [hl]; simp)
      exact ⟨e, h1, h3, h2⟩
  · rintro ⟨e, h1, h2, h3⟩ h
    have := (nextR_mem f [o] E e.2.2).2 ⟨e, h1, h3, h2, rfl⟩
    rw [h] at this
    simp at this
end Go.Proofs.YtalnfhipggbdlaaGreatDoor
