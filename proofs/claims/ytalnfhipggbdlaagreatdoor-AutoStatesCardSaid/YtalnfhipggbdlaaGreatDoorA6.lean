/- auto.Build. -/
import Derived.Test.YtalnfhipggbdlaaGreatDoorA5
namespace Go.Proofs.YtalnfhipggbdlaaGreatDoor
open Go.RowKit
set_option linter.unusedVariables false
set_option linter.unusedSimpArgs false

theorem StateStep_calls (s : List Int) (v : Value) (i f : Int) (base ab gb : Nat) (sv : Value) (st id : Nat) (S : List (List Int)) (m : ByteArray → Option Value) (K : Int × Int → Option Int) (w : World) (hA : AC w base ab gb sv st id S m K)
    (hv : RdI w (fun q => ¬ mutA ab st id sv q) v s) (hs : okO s) (hsl : s.length ≤ 8) (hSl : S.length < 1000000) :
    Calls Tryz.prog 61 #[ptr ab, v] w fun e w' => ∃ w'' sv' m', e = .returned (.int .i64 (find s (addSt S s))) ∧ (Instr.mapUpdate 84 (.map (some st)) (.agg #[.int .i64 i, .int .i64 f]) (.int .i64 (find s (addSt S s)))).run Tryz.prog w' = .ok () w'' ∧
      w'.cell? ⟨ab, 2, none⟩ = some (.map (some st)) ∧ w''.cell? ⟨ab, 2, none⟩ = some (.map (some st)) ∧
      As (AC w'' base ab gb sv' st id (addSt S s) m' (up K (i, f) (some (find s (addSt S s)))) ∧ Mv (fun k => mutA ab st id sv k) w w'' ∧ (sv'.ownBlock = sv.ownBlock ∨ ∃ g, sv'.ownBlock = some g ∧ w.heap.size ≤ g)) := by
  refine (State_calls s v base ab gb sv st id S m K w hA hv hs hsl hSl).mono ?_
  rintro e w' ⟨sv', m', rfl, hA', hm, hat⟩
  obtain ⟨w'', hrun, hg, hz, hst⟩ := hA'.st.store key91 und84 (i, f) (.int .i64 (find s (addSt S s)))
  have hK := hst (fun p => (up K (i, f) (some (find s (addSt S s))) p).map (Value.int .i64)) (by simp [up_at]) (fun y hy => by simp [up_ne _ _ _ _ hy])
  have c2 := (set4 hA'.a).2.2.1
  refine ⟨w'', sv', m', by rw [find_addSt], hrun, c2, (set4 (hA'.stepped hg hK).a).2.2.1, ⟨hA'.stepped hg hK, ?_, hat⟩⟩
  refine (hm.mono (S' := fun k => mutA ab st id sv k) (fun k _ h => ?_)).trans ((Mv.of_grown hg).mono (S' := fun k => mutA ab st id sv k) (fun k _ h => Or.inr (Or.inl (Option.some.inj h).symm))) (fun k _ h => h)
  rcases h with h | h | h
  · exact Or.inl h
  · exact Or.inr (Or.inr (Or.inl h))
  · exact Or.inr (Or.inr (Or.inr h))

/-- Which automaton is meant: the reference's states, and where fields lead. -/
def KF (E : List Edge) (R : List (List Int)) (K : Int × Int → Option Int) : Prop := KP E (DI E R R.length []) R K

set_option maxRecDepth 100000 in
set_option maxHeartbeats 1000000 in
theorem BuildOut_calls (T : List ByteArray) (E : List Edge) (o most : Int) (gb : Nat) (w : World) (hG : GR w gb T E) (ho : o < 0 ∨ (T.length : Int) ≤ o) :
    Calls Tryz.prog 19 #[ptr gb, .int .i64 o, .int .i64 most] w fun e w' => e = .returned (.tuple #[.pointer none, .int .i64 2]) ∧ Below w.heap.size w w' := by
  obtain ⟨A, c, nb, mb, hg, _⟩ := hG.typ
  have HL := As.mk (LenG_calls gb T.length c A _ _ w hg)
  have hq : ∀ w : World, (binOp .eql 28 (.pointer (some ⟨gb, 0, none⟩)) (.pointer none)).run Tryz.prog w = .ok (.bool false) w := fun w => by kernel_rfl
  unfold ptr
  clear hg hG
  by_cases h0 : o < 0
  · have h0b : decide (o < 0) = true := decide_eq_true h0
    go_enter Tryz.func19, Tryz.ntmps19
    go_wp2
    go_ret2
    exact ⟨rfl, by go_grown⟩
  · have h0b : decide (o < 0) = false := decide_eq_false h0
    have h1b : decide ((T.length : Int) ≤ o) = true := decide_eq_true (ho.resolve_left h0)
    go_enter Tryz.func19, Tryz.ntmps19
    go_wp2_with (go_at_call 60; refine (HL.out).mono ?_; rintro e w1 ⟨rfl, hb1⟩)
    go_ret2
    exact ⟨rfl, hb1⟩
set_option maxRecDepth 100000 in
set_option maxHeartbeats 1000000 in
theorem BuildNil_calls (o most : Int) (w : World) :
    Calls Tryz.prog 19 #[.pointer none, .int .i64 o, .int .i64 most] w fun e w' => e = .returned (.tuple #[.pointer none, .int .i64 2]) ∧ Below w.heap.size w w' := by
  have hq : ∀ w : World, (binOp .eql 28 (.pointer none) (.pointer none)).run Tryz.prog w = .ok (.bool true) w := fun w => by kernel_rfl
  go_enter Tryz.func19, Tryz.ntmps19
  go_wp2
  go_ret2
  exact ⟨rfl, by go_grown⟩
end Go.Proofs.YtalnfhipggbdlaaGreatDoor
