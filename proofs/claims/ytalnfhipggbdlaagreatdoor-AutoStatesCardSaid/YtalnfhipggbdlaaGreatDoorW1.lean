/- Law 23: its example. -/
import Derived.Test.YtalnfhipggbdlaaGreatDoorP1
namespace Go.Proofs.YtalnfhipggbdlaaGreatDoor
open Go.RowKit
set_option linter.unusedVariables false
set_option linter.unusedSimpArgs false

def exT : List ByteArray := [⟨#[65]⟩, ⟨#[66]⟩, ⟨#[66]⟩]
def exE : List Edge := [(0, 1, 1), (0, 1, 2)]
def exR : List (List Int) := [[0], [1, 2]]
theorem ex_bfs : bfsR exE 257 0 [[0]] = some exR := by decide
theorem ex_ok : exE.all (okE exT.length) = true := by decide
theorem ex_step : stepR exE exR 0 1 = 1 := by decide
theorem ex_st : stA exR 1 = [1, 2] := by decide

theorem neq32 (w : World) (b : Nat) : (binOp .neq 32 (.pointer (some ⟨b, 0, none⟩)) (.pointer none)).run Tryz.prog w = .ok (.bool true) w := by kernel_rfl
theorem eql32 (w : World) (b : Nat) : (binOp .eql 32 (.pointer (some ⟨b, 0, none⟩)) (.pointer none)).run Tryz.prog w = .ok (.bool false) w := by kernel_rfl
theorem neq32n (w : World) : (binOp .neq 32 (.pointer none) (.pointer none)).run Tryz.prog w = .ok (.bool false) w := by kernel_rfl
theorem eql32n (w : World) : (binOp .eql 32 (.pointer none) (.pointer none)).run Tryz.prog w = .ok (.bool true) w := by kernel_rfl
theorem neq28 (w : World) (b : Nat) : (binOp .neq 28 (.pointer (some ⟨b, 0, none⟩)) (.pointer none)).run Tryz.prog w = .ok (.bool true) w := by kernel_rfl
theorem eql28 (w : World) (b : Nat) : (binOp .eql 28 (.pointer (some ⟨b, 0, none⟩)) (.pointer none)).run Tryz.prog w = .ok (.bool false) w := by kernel_rfl
theorem below_alloc (w : World) (o : Obj) : Below w.heap.size w (w.alloc o) := ⟨rfl, rfl, rfl, by simp, fun k hk => Below.heap_alloc w o k hk⟩
/-- A right graph's edges. -/
theorem ok_edges {T : List ByteArray} {E : List Edge} (h : E.all (okE T.length) = true) (hT : T.length ≤ 8) : ∀ e ∈ E, 0 ≤ e.2.2 ∧ e.2.2 < 8 := fun e he => by
  have := List.all_eq_true.1 h e he
  simp [okE] at this
  omega
/-- The automaton of an object, as Build leaves it, most being enough. -/
theorem BuildAll_calls (T : List ByteArray) (E : List Edge) (o most : Int) (gb : Nat) (w : World) (R : List (List Int)) (hG : GR w gb T E) (ho : 0 ≤ o ∧ o < (T.length : Int)) (hT : T.length ≤ 8) (hok : E.all (okE T.length) = true) (hE : E.length < 1000)
    (hR : bfsR E 257 0 [[o]] = some R) (hRl : R.length < 1000) (hm : (R.length : Int) ≤ most) :
    Calls Tryz.prog 19 #[.pointer (some ⟨gb, 0, none⟩), .int .i64 o, .int .i64 most] w fun e w' => ∃ ab K, e = .returned (.tuple #[.pointer (some ⟨ab, 0, none⟩), .int .i64 0]) ∧ AR w' ab gb T E R K ∧ KF E R K ∧ good R ∧ Below w.heap.size w w' := by
  refine (Build_calls T E o most gb w hG ho hT (ok_edges hok hT) hE 257 R hR hRl).mono ?_
  rintro e w' ⟨v, rfl, hb, hbl⟩
  rw [built, if_neg (by omega)] at hb
  obtain ⟨ab, K, rfl, h1, h2, h3⟩ := hb
  exact ⟨ab, K, rfl, h1, h2, h3, hbl⟩

set_option maxRecDepth 100000 in
set_option maxHeartbeats 1000000 in
theorem Awake23_calls (w : World) : Calls Tryz.prog 16 #[] w fun e w' => e = .returned (.bool true) ∧ Below w.heap.size w w' := by
  obtain ⟨W1, hW1⟩ : ∃ W1, W1 = w.alloc (.cells #[.string ⟨#[65]⟩, .string ⟨#[66]⟩, .string ⟨#[66]⟩] 9) := ⟨_, rfl⟩
  obtain ⟨W2, hW2⟩ : ∃ W2, W2 = W1.alloc (.cells #[.int .i64 0, .int .i64 1, .int .i64 1, .int .i64 0, .int .i64 1, .int .i64 2] 74) := ⟨_, rfl⟩
  have hs1 : W1.heap.size = w.heap.size + 1 := by rw [hW1]; simp
  have hb1 : Below w.heap.size w W1 := by rw [hW1]; go_grown
  have hb2 : Below W1.heap.size W1 W2 := by rw [hW2]; go_grown
  have HB2 := As.mk (below_seq hb1 hb2)
  have hT : RdS W2 (fun _ => True) (.slice (some ⟨w.heap.size, 0, none⟩) 3 3) exT := by
    have h := rd_lit w 9 1 3 #[.string ⟨#[65]⟩, .string ⟨#[66]⟩, .string ⟨#[66]⟩] (by omega) rfl
    rw [← hW1] at h
    exact Rd.any (Rd.below h hb2)
  have hE : RdE W2 (fun _ => True) (.slice (some ⟨w.heap.size + 1, 0, none⟩) 2 2) exE := by
    have h := rd_lit W1 74 3 2 #[.int .i64 0, .int .i64 1, .int .i64 1, .int .i64 0, .int .i64 1, .int .i64 2] (by omega) rfl
    rw [← hW2, hs1] at h
    exact Rd.any h
  have HNEW := As.mk (New_calls exT exE _ _ _ _ W2 hT hE ex_ok (by decide) (by decide))
  rw [hW2, hW1] at HNEW
  have h32 := neq32
  unfold ptr at HNEW
  rw [hW2, hW1] at HB2
  clear hT hE hb1 hb2 hs1 hW2 hW1
  go_enter Tryz.func16, Tryz.ntmps16
  go_wp2_with (first
    | (go_at_call 18; refine (HNEW.out).mono ?_; rintro e w1 ⟨gb, rfl, hg1, hb1⟩; have HG1 := As.mk hg1; have HB1 := As.mk (below_seq HB2.out hb1); clear hg1 hb1)
    | (go_at_call_of 19 (Value.pointer (some ⟨gb, 0, none⟩)); refine (BuildAll_calls exT exE 0 9 gb _ exR HG1.out ⟨by decide, by decide⟩ (by decide) ex_ok (by decide) ex_bfs (by decide) (by decide)).mono ?_; rintro e w2 ⟨ab, K, rfl, ha2, hk2, hgd, hb2⟩; have HA2 := As.mk ha2; have HK2 := As.mk hk2; have HGD := As.mk hgd; have HB3 := As.mk (below_seq HB1.out hb2); clear ha2 hk2 hb2 hgd)
    | (go_at_call_of 19 (Value.pointer none); refine (BuildNil_calls 0 9 _).mono ?_; rintro e w3 ⟨rfl, hb3⟩; have HA3 := As.mk (HA2.out.below hb3); have HB4 := As.mk (below_seq HB3.out hb3); clear hb3)
    | (go_at_call 21; refine (LenA_calls ab gb _ _ _ _ _ HA3.out).mono ?_; rintro e w4 ⟨rfl, hb4⟩; have HA4 := As.mk (HA3.out.below hb4); have HB5 := As.mk (below_seq HB4.out hb4); clear hb4)
    | (go_at_call 24; refine (StateA_calls ab gb _ _ _ _ 1 _ HA4.out HGD.out).mono ?_; rw [ex_st]; rintro e w5 ⟨v5, rfl, ho5, hb5⟩; have HA5 := As.mk (HA4.out.below hb5); have HB6 := As.mk (below_seq HB5.out hb5); have HO5 := As.mk (own_rd ho5); clear hb5 ho5)
    | (go_at_call 29; refine (Same_calls [1, 2] [1, 2] _ _ _ (fun _ => True) _ ((HO5.out).below (below_alloc _ _)) (Rd.any (rd_lit _ 3 1 2 #[.int .i64 1, .int .i64 2] (by decide) rfl))).mono ?_; rintro e w6 ⟨rfl, hb6⟩; have HA6 := As.mk ((HA5.out.below (below_alloc _ _)).below hb6); have HB7 := As.mk (below_seq (below_seq HB6.out (below_alloc _ _)) hb6); clear hb6)
    | (go_at_call 27; refine (StepA_calls ab gb _ _ _ _ 0 1 _ HA6.out).mono ?_; rw [stepK_eq HK2.out HGD.out, ex_step]; rintro e w7 ⟨rfl, hb7⟩; have HB8 := As.mk (below_seq HB7.out hb7); clear hb7))
  go_ret
  exact ⟨rfl, HB8.out⟩
end Go.Proofs.YtalnfhipggbdlaaGreatDoor
