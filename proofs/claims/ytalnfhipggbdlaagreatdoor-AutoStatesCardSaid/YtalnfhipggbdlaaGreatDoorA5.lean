/- auto.Build: what its rounds keep. -/
import Derived.Test.YtalnfhipggbdlaaGreatDoorA4
namespace Go.Proofs.YtalnfhipggbdlaaGreatDoor
open Go.RowKit
set_option linter.unusedVariables false
set_option linter.unusedSimpArgs false

set_option maxRecDepth 100000 in
theorem make84 (w : World) : (Instr.makeMap 84 none).run Tryz.prog w = .ok (.map (some w.heap.size)) (w.alloc (.map #[] 0)) := by kernel_rfl
set_option maxRecDepth 100000 in
theorem make85 (w : World) : (Instr.makeMap 85 none).run Tryz.prog w = .ok (.map (some w.heap.size)) (w.alloc (.map #[] 0)) := by kernel_rfl

/-- What lies apart from what changes lies apart behind it too. -/
theorem rd_mut {w w1 : World} {ab st id : Nat} {sv sv' u : Value} {x : List Int} (h : RdI w (fun q => ¬ mutA ab st id sv q) u x) (hm : Mv (fun k => mutA ab st id sv k) w w1)
    (hat : sv'.ownBlock = sv.ownBlock ∨ ∃ g, sv'.ownBlock = some g ∧ w.heap.size ≤ g) : RdI w1 (fun q => ¬ mutA ab st id sv' q) u x := by
  refine ((Rd.bound h).step (fun q hq hlt => hm.block q hlt hq.1)).mono (fun q hq hlt e => hq.1 ?_)
  rcases e with e | e | e | e
  · exact Or.inl e
  · exact Or.inr (Or.inl e)
  · exact Or.inr (Or.inr (Or.inl e))
  · rcases hat with h' | ⟨g, h', hg⟩
    · exact Or.inr (Or.inr (Or.inr (h' ▸ e)))
    · rw [h'] at e; have := Option.some.inj e; have := hq.2; omega
theorem AC.stepped {w w1 : World} {base ab gb : Nat} {sv : Value} {st id : Nat} {S : List (List Int)} {m : ByteArray → Option Value} {K K' : Int × Int → Option Int} (h : AC w base ab gb sv st id S m K) (hg : w.grownBy w1 (some st)) (hm : MapIs w1 enc2 st (fun p => (K' p).map (Value.int .i64))) :
    AC w1 base ab gb sv st id S m K' := by
  obtain ⟨f1, f2, f3, f4, f5⟩ := h.far
  obtain ⟨vs, h1, h2, h3⟩ := h.rows
  have hfar : ∀ k, k ≠ st → k < w.heap.size → w1.heap[k]? = w.heap[k]? := fun k hk hlt => hg.block k hlt (fun e => hk (Option.some.inj e))
  exact ⟨(hfar ab f1 (Array.getElem?_eq_some_iff.1 h.a).1).trans h.a, h.abase, h.sbase, h.ibase, h.ne, ⟨vs, h1, own_move h2 (fun k hk hlt => hfar k (fun e => f4 (by rw [hk, e])) hlt), fun i x u hx hu => (h3 i x u hx hu).step (fun q hq hlt => hfar q (fun e => hq (Or.inr (Or.inl e))) hlt)⟩,
    hm, h.ids.move (hfar id (Ne.symm h.ne) h.ids.lt), h.idm, h.oks⟩

theorem find_addSt (s : List Int) (S : List (List Int)) : find s (addSt S s) = if find s S < 0 then (S.length : Int) else find s S := by
  unfold addSt
  by_cases h : find s S < 0
  · rw [if_pos h, if_pos h, find_snoc s s S h, if_neg (by omega), if_pos rfl]
  · rw [if_neg h, if_neg h]
theorem find_addSt_old (y s : List Int) (S : List (List Int)) (hy : 0 ≤ find y S) : find y (addSt S s) = find y S := by
  unfold addSt
  split
  · rename_i h; rw [find_snoc y s S h, if_pos hy]
  · rfl
/-- What the steps tell so far: just of D. -/
structure KP (E : List Edge) (D : Int → Int → Prop) (S : List (List Int)) (K : Int × Int → Option Int) : Prop where
  lt : ∀ a f, D a f → 0 ≤ a ∧ a < S.length
  yes : ∀ a f, D a f → 0 ≤ find (nextR f (S.getD a.toNat []) E) S ∧ K (a, f) = some (find (nextR f (S.getD a.toNat []) E) S)
  no : ∀ a f, ¬ D a f → K (a, f) = none
theorem KP.step {E : List Edge} {D D' : Int → Int → Prop} {S : List (List Int)} {K : Int × Int → Option Int} (h : KP E D S K) (i : Nat) (f : Int) (hi : i < S.length)
    (hD : ∀ a g, D' a g ↔ D a g ∨ (a = i ∧ g = f)) : KP E D' (addSt S (nextR f (S.getD i []) E)) (up K ((i : Int), f) (some (find (nextR f (S.getD i []) E) (addSt S (nextR f (S.getD i []) E))))) := by
  have hle := addSt_le S (nextR f (S.getD i []) E)
  have hget : ∀ a : Int, 0 ≤ a → a < S.length → (addSt S (nextR f (S.getD i []) E)).getD a.toNat [] = S.getD a.toNat [] := fun a h0 h1 => addSt_get S _ a.toNat (by omega)
  refine ⟨fun a g hd => ?_, fun a g hd => ?_, fun a g hd => ?_⟩
  · rcases (hD a g).1 hd with hd | ⟨rfl, rfl⟩
    · have := h.lt a g hd; omega
    · omega
  · by_cases e : (a, g) = ((i : Int), f)
    · injection e with e1 e2
      subst e1 e2
      rw [hget i (by omega) (by omega), Int.toNat_natCast, up_at]
      refine ⟨?_, rfl⟩
      rw [find_addSt]
      have := find_ge (nextR g (S.getD i []) E) S
      split <;> omega
    · have hd2 : D a g := ((hD a g).1 hd).resolve_right (fun h => e (by rw [h.1, h.2]))
      obtain ⟨l0, l1⟩ := h.lt a g hd2
      obtain ⟨y0, y1⟩ := h.yes a g hd2
      rw [hget a l0 l1, find_addSt_old _ _ S y0, up_ne _ _ _ _ e]
      exact ⟨y0, y1⟩
  · have hd1 : ¬ D a g := fun h => hd ((hD a g).2 (Or.inl h))
    have hd2 : (a, g) ≠ ((i : Int), f) := fun e => by
      injection e with e1 e2
      exact hd ((hD a g).2 (Or.inr ⟨e1, e2⟩))
    rw [up_ne _ _ _ _ hd2]
    exact h.no a g hd1
theorem good_addSt {S : List (List Int)} {s : List Int} (h : good S) (h1 : s ≠ []) (h2 : s.Pairwise (· < ·)) (h3 : okO s) : good (addSt S s) := fun x hx => by
  unfold addSt at hx
  split at hx
  · rcases List.mem_append.1 hx with hx | hx
    · exact h x hx
    · simp at hx; subst hx; exact ⟨h1, h2, h3⟩
  · exact h x hx
theorem nextR_ne_of (f : Int) (os : List Int) (E : List Edge) (ho : os ≠ []) : nextR f os E ≠ [] ↔ f ∈ fldsR os E := by
  rw [fldsR_mem os E f ho]
  constructor
  · intro h
    cases hl : nextR f os E with
    | nil => exact absurd hl h
    | cons x l =>
      obtain ⟨e, h1, h2, h3, _⟩ := (nextR_mem f os E x).1 (by rw [hl]; simp)
      exact ⟨e, h1, h3, h2⟩
  · rintro ⟨e, h1, h2, h3⟩ h
    have := (nextR_mem f os E e.2.2).2 ⟨e, h1, h3, h2, rfl⟩
    rw [h] at this
    simp at this
/-- All fields of the states ahead of i, and of state i those of fs. -/
def DI (E : List Edge) (S : List (List Int)) (i : Nat) (fs : List Int) (a f : Int) : Prop := (0 ≤ a ∧ a < i ∧ f ∈ fldsR (S.getD a.toNat []) E) ∨ (a = i ∧ f ∈ fs)
theorem KP.congr {E : List Edge} {D D' : Int → Int → Prop} {S : List (List Int)} {K : Int × Int → Option Int} (h : KP E D S K) (hD : ∀ a g, D' a g ↔ D a g) : KP E D' S K :=
  ⟨fun a g hd => h.lt a g ((hD a g).1 hd), fun a g hd => h.yes a g ((hD a g).1 hd), fun a g hd => h.no a g (fun e => hd ((hD a g).2 e))⟩
theorem KP.empty (E : List Edge) (D : Int → Int → Prop) (S : List (List Int)) (h : ∀ a f, ¬ D a f) : KP E D S (fun _ => none) := ⟨fun a f hd => absurd hd (h a f), fun a f hd => absurd hd (h a f), fun _ _ _ => rfl⟩
end Go.Proofs.YtalnfhipggbdlaaGreatDoor
