/- The reference's states: at most 256; the search ends. -/
import Derived.Test.YtalnfhipggbdlaaGreatDoorA7
namespace Go.Proofs.YtalnfhipggbdlaaGreatDoor
open Go.RowKit
set_option linter.unusedVariables false
set_option linter.unusedSimpArgs false

theorem len_of_subset {α : Type} [DecidableEq α] : ∀ (l m : List α), l.Nodup → (∀ x ∈ l, x ∈ m) → l.length ≤ m.length
  | [], m, _, _ => by simp
  | a :: l, m, hn, hs => by
    have h1 := List.nodup_cons.1 hn
    have ha : a ∈ m := hs a (by simp)
    have h2 := len_of_subset l (m.erase a) h1.2 (fun x hx => by
      have hne : x ≠ a := fun e => h1.1 (e ▸ hx)
      exact (List.mem_erase_of_ne hne).2 (hs x (List.mem_cons_of_mem _ hx)))
    have h3 := List.length_erase_of_mem ha
    have h4 : 0 < m.length := List.length_pos_of_mem ha
    simp; omega
/-- All rising lists of numbers from k on, below k + n. -/
def subs : Nat → Int → List (List Int)
  | 0, _ => [[]]
  | n + 1, k => subs n (k + 1) ++ (subs n (k + 1)).map (k :: ·)
theorem subs_len : ∀ (n : Nat) (k : Int), (subs n k).length = 2 ^ n
  | 0, _ => rfl
  | n + 1, k => by rw [subs, List.length_append, List.length_map, subs_len n, Nat.pow_succ]; omega
theorem subs_mem : ∀ (n : Nat) (k : Int) (l : List Int), l.Pairwise (· < ·) → (∀ x ∈ l, k ≤ x ∧ x < k + n) → l ∈ subs n k
  | 0, k, l, _, h => by
    cases l with
    | nil => simp [subs]
    | cons a l => have := h a (by simp); omega
  | n + 1, k, l, hs, h => by
    rw [subs, List.mem_append, List.mem_map]
    cases l with
    | nil => exact Or.inl (subs_mem n (k + 1) [] hs (by simp))
    | cons a l =>
      have ha := h a (by simp)
      have hp := List.pairwise_cons.1 hs
      by_cases e : a = k
      · subst e
        exact Or.inr ⟨l, subs_mem n (a + 1) l hp.2 (fun x hx => by have := hp.1 x hx; have := h x (List.mem_cons_of_mem _ hx); omega), rfl⟩
      · refine Or.inl (subs_mem n (k + 1) (a :: l) hs (fun x hx => ?_))
        have hx2 := h x hx
        rcases List.mem_cons.1 hx with rfl | hx
        · omega
        · have := hp.1 x hx; omega
theorem good_len {S : List (List Int)} (h : good S) (hn : S.Nodup) : S.length ≤ 256 := by
  have h1 := len_of_subset S (subs 8 0) hn (fun x hx => subs_mem 8 0 x (h x hx).2.1 (fun y hy => by have := (h x hx).2.2 y hy; omega))
  rw [subs_len] at h1
  exact h1
theorem nodup_addSt {S : List (List Int)} {s : List Int} (h : S.Nodup) : (addSt S s).Nodup := by
  unfold addSt
  split
  · rename_i hf
    rcases find_cases s S with ⟨_, h2⟩ | ⟨k, h1, _⟩
    · rw [List.nodup_append]
      refine ⟨h, by simp, fun a ha b hb => ?_⟩
      simp at hb
      subst hb
      intro e; exact h2 (e ▸ ha)
    · omega
  · exact h
theorem expand_ok (E : List Edge) (hok : ∀ e ∈ E, 0 ≤ e.2.2 ∧ e.2.2 < 8) (x : List Int) (hx : x ≠ []) : ∀ (fs : List Int) (S : List (List Int)), (∀ f ∈ fs, f ∈ fldsR x E) → good S → S.Nodup → good (expandR E x S fs) ∧ (expandR E x S fs).Nodup
  | [], S, _, h1, h2 => ⟨h1, h2⟩
  | f :: fs, S, hf, h1, h2 => by
    show good (expandR E x (addSt S (nextR f x E)) fs) ∧ (expandR E x (addSt S (nextR f x E)) fs).Nodup
    exact expand_ok E hok x hx fs _ (fun g hg => hf g (List.mem_cons_of_mem _ hg)) (good_addSt h1 ((nextR_ne_of f x E hx).2 (hf f (by simp))) (nextR_up f x E) (nextR_okO f x E hok)) (nodup_addSt h2)
theorem bfs_ends (E : List Edge) (hok : ∀ e ∈ E, 0 ≤ e.2.2 ∧ e.2.2 < 8) : ∀ (n i : Nat) (S : List (List Int)), good S → S.Nodup → i ≤ S.length → 256 < n + i → ∃ R, bfsR E n i S = some R ∧ good R ∧ R.Nodup ∧ R.length ≤ 256
  | 0, i, S, h1, h2, h3, h4 => by have := good_len h1 h2; omega
  | n + 1, i, S, h1, h2, h3, h4 => by
    rw [bfsR]
    by_cases hlt : i < S.length
    · rw [if_pos hlt]
      obtain ⟨g1, g2⟩ := expand_ok E hok (S.getD i []) (good_at h1 i hlt).1 (fldsR (S.getD i []) E) S (fun f hf => hf) h1 h2
      have hle := expandR_le E (S.getD i []) (fldsR (S.getD i []) E) S
      exact bfs_ends E hok n (i + 1) _ g1 g2 (by omega) (by omega)
    · rw [if_neg hlt]
      exact ⟨S, rfl, h1, h2, good_len h1 h2⟩
theorem bfs_some (E : List Edge) (hok : ∀ e ∈ E, 0 ≤ e.2.2 ∧ e.2.2 < 8) (o : Int) (ho : 0 ≤ o ∧ o < 8) : ∃ R, bfsR E 257 0 [[o]] = some R ∧ good R ∧ R.Nodup ∧ R.length ≤ 256 :=
  bfs_ends E hok 257 0 [[o]] (fun x hx => by simp at hx; subst hx; exact ⟨by simp, List.pairwise_singleton _ _, fun y hy => by simp at hy; subst hy; exact ho⟩) (by simp) (by simp) (by omega)
theorem stepK_eq {E : List Edge} {R : List (List Int)} {K : Int × Int → Option Int} (h : KF E R K) (hg : good R) (i f : Int) : stepK K i f = stepR E R i f := by
  unfold stepK stepR
  by_cases hi : i < 0 ∨ (R.length : Int) ≤ i
  · rw [if_pos hi, h.no i f (by
      rintro (⟨h0, h1, _⟩ | ⟨_, h1⟩)
      · omega
      · simp at h1)]
    rfl
  · rw [if_neg hi]
    obtain ⟨n, rfl⟩ : ∃ n : Nat, i = n := ⟨i.toNat, by omega⟩
    have hn : n < R.length := by omega
    rw [Int.toNat_natCast]
    have hx := (good_at hg n hn).1
    by_cases hf : f ∈ fldsR (R.getD n []) E
    · have := h.yes n f (Or.inl ⟨by omega, by omega, by rw [Int.toNat_natCast]; exact hf⟩)
      rw [Int.toNat_natCast] at this
      rw [this.2, if_neg ((nextR_ne_of f _ E hx).2 hf)]
      rfl
    · rw [h.no n f (by
        rintro (⟨h0, h1, h2⟩ | ⟨_, h1⟩)
        · rw [Int.toNat_natCast] at h2; exact hf h2
        · simp at h1), if_pos]
      · rfl
      · cases hl : nextR f (R.getD n []) E with
        | nil => rfl
        | cons a l => exact absurd ((nextR_ne_of f _ E hx).1 (by rw [hl]; simp)) hf
end Go.Proofs.YtalnfhipggbdlaaGreatDoor
