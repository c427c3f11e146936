/- graph.New. -/
import Derived.Test.YtalnfhipggbdlaaGreatDoorG1
namespace Go.Proofs.YtalnfhipggbdlaaGreatDoor
open Go.RowKit
set_option linter.unusedVariables false
set_option linter.unusedSimpArgs false

/-- A graph that is only read. -/
def GR (w : World) (gb : Nat) (T : List ByteArray) (E : List Edge) : Prop := ∃ base tv nb mb N R, GC w base gb T (cont E) tv nb mb N R ∧ Has E N
theorem GR.below {w w1 : World} {gb : Nat} {T : List ByteArray} {E : List Edge} (h : GR w gb T E) (hb : Below w.heap.size w w1) : GR w1 gb T E := by
  obtain ⟨base, tv, nb, mb, N, R, h1, h2⟩ := h
  exact ⟨base, tv, nb, mb, N, R, h1.below hb, h2⟩
theorem cell_block_below {w w1 : World} (hb : Below w.heap.size w w1) {b : Nat} {o : Obj} (h : w.heap[b]? = some o) : w1.heap[b]? = some o := (hb.block b (Array.getElem?_eq_some_iff.1 h).1).trans h
theorem cont_nil (y : Slot) : cont [] y = [] := by cases y <;> rfl
theorem has_nil : Has [] (fun _ => none) := fun p => by simp [fldsR]

set_option maxRecDepth 100000 in
theorem make76 (w : World) : (Instr.makeMap 76 none).run Tryz.prog w = .ok (.map (some w.heap.size)) (w.alloc (.map #[] 0)) := by kernel_rfl
set_option maxRecDepth 100000 in
theorem make77 (w : World) : (Instr.makeMap 77 none).run Tryz.prog w = .ok (.map (some w.heap.size)) (w.alloc (.map #[] 0)) := by kernel_rfl

set_option maxRecDepth 100000 in
set_option maxHeartbeats 1000000 in
theorem New_calls (T : List ByteArray) (E : List Edge) (tv ev : Value) (ok ok' : Nat → Prop) (w : World) (hT : RdS w ok tv T) (hE : RdE w ok' ev E) (hok : E.all (okE T.length) = true) (hTl : T.length ≤ 8) (hEl : E.length < 1000000) :
    Calls Tryz.prog 18 #[tv, ev] w fun e w' => ∃ gb, e = .returned (.tuple #[ptr gb, .int .i64 0]) ∧ GR w' gb T E ∧ Below w.heap.size w w' := by
  have HT := As.mk hT
  have HE := As.mk hE
  have HOK := As.mk hok
  obtain ⟨EA, ec, rfl, _, _⟩ := Rd.form hE
  clear hT hE hok
  have hm6 := make76
  have hm7 := make77
  go_enter Tryz.func18, Tryz.ntmps18
  go_wp2_with (go_at_call 57; refine (CloneS_calls T tv _ _ HT.out (by omega)).mono ?_; rintro e w1 ⟨v1, rfl, ho1, hb1⟩; have HO1 := As.mk ho1; obtain ⟨A1, c1, rfl⟩ := own_slice ho1; clear ho1)
  obtain ⟨W, hW⟩ : ∃ W, W = ((w1.alloc (.map #[] 0)).alloc (.map #[] 0)).alloc (.cells #[.slice A1 T.length c1, .map (some w1.heap.size), .map (some (w1.heap.size + 1))] 79) := ⟨_, rfl⟩
  have hbW : Below w1.heap.size w1 W := by rw [hW]; go_grown
  have HG0 : As (GC W w.heap.size (w1.heap.size + 1 + 1) T (cont []) (.slice A1 T.length c1) w1.heap.size (w1.heap.size + 1) (fun _ => none) (fun _ => .slice none 0 0)) := ⟨by
    have hs := hb1.size
    refine ⟨?_, own_below HO1.out hbW, ?_, ?_, by omega, by omega, by omega, by omega, ⟨fun x => by rw [cont_nil]; exact own_nil _ _ _ _, fun x y k hx => by simp [Value.ownBlock] at hx⟩, fun p => Or.inl ⟨rfl, cont_nil _⟩, fun p q b hp => by cases hp⟩
    · rw [hW]
      have := heap_alloc_new ((w1.alloc (.map #[] 0)).alloc (.map #[] 0)) (.cells #[.slice A1 T.length c1, .map (some w1.heap.size), .map (some (w1.heap.size + 1))] 79)
      simpa using this
    · refine (MapIs.made w1).below ?_
      rw [hW]; simp only [World.size_alloc]; go_grown
    · have h2 : (fun o => if cont [] (.inr o) = [] then none else some ((fun _ => Value.slice none 0 0 : Slot → Value) (.inr o))) = (fun _ => none) := by funext o; simp [cont_nil]
      rw [h2]
      have := (MapIs.made (enc := Value.int .i64) (w1.alloc (.map #[] 0))).below (w1 := W) (by rw [hW]; go_grown)
      simpa using this⟩
  have HB0 := As.mk (below_seq hb1 hbW)
  rw [← hW]
  clear hW hbW hb1 HO1 hm6 hm7
  go_loopw [17] (fun v wr => ∃ k : Nat, v = .int .i64 k ∧ k ≤ E.length ∧ ∃ N R, As (GC wr w.heap.size (w1.heap.size + 1 + 1) T (cont (E.take k)) (.slice A1 T.length c1) w1.heap.size (w1.heap.size + 1) N R) ∧ As (Has (E.take k) N) ∧ As (Below w.heap.size w wr)) (fun v _ => E.length - (intOf v).toNat)
  case atStart => exact ⟨0, rfl, by omega, _, _, HG0, ⟨has_nil⟩, HB0⟩
  case round =>
    clear HG0 HB0
    obtain ⟨k, rfl, hk, N, R, hG, hH, hB⟩ := hrel
    by_cases hlt : k < E.length
    · obtain ⟨ad, rfl, e0, e1, e2⟩ := RdE.at (Rd.below HE.out hB.out) k hlt
      have hoke : okE T.length (E.getD k zE) = true := all_get E _ HOK.out k hlt zE
      have HTS : As (E.take (k + 1) = E.take k ++ [E.getD k zE]) := ⟨by rw [List.take_succ_eq_append_getElem hlt, getD_at E k zE hlt]⟩
      have HOKT : As (∀ e ∈ E.take k, 0 ≤ e.2.2 ∧ e.2.2 < 8) := ⟨fun e he => by
        have := List.all_eq_true.1 HOK.out e (List.mem_of_mem_take he)
        simp [okE] at this
        omega⟩
      generalize E.getD k zE = e at *
      obtain ⟨x, f, y⟩ := e
      simp only [okE, Bool.and_eq_true, decide_eq_true_eq] at hoke
      obtain ⟨⟨⟨hx0, hx1⟩, hy0⟩, hy1⟩ := hoke
      have hxb : (decide (0 ≤ x) && decide (x < (T.length : Int))) = true := by simp [hx0, hx1]
      have hyb : (decide (0 ≤ y) && decide (y < (T.length : Int))) = true := by simp [hy0, hy1]
      have HXB := As.mk hxb
      have HYB := As.mk hyb
      have HY8 : As (0 ≤ y ∧ y < 8) := ⟨by omega⟩
      have HKL : As ((E.take k).length < 1000000) := ⟨by rw [List.length_take]; omega⟩
      clear hxb hyb
      have hbA : Below wr.heap.size wr (wr.alloc (.cells #[.int .i64 x, .int .i64 f, .int .i64 y] 74)) := by go_grown
      have HZ0 : As ((wr.alloc (.cells #[.int .i64 x, .int .i64 f, .int .i64 y] 74)).heap[wr.heap.size]? = some (.cells #[.int .i64 x, .int .i64 f, .int .i64 y] 74 (0, 0))) := ⟨heap_alloc_new _ _⟩
      have HTH : As (∀ (X : World) (o : Int), Below wr.heap.size wr X → (decide (0 ≤ o) && decide (o < (T.length : Int))) = true → Calls Tryz.prog 58 #[.pointer (some ⟨w1.heap.size + 1 + 1, 0, none⟩), .int .i64 o] X fun e w' => e = .returned (.bool true) ∧ Below X.heap.size X w') := ⟨fun X o hX ho => by
        have := There_calls (w1.heap.size + 1 + 1) T.length c1 A1 _ _ o X (hG.out.below hX).g
        rwa [ho] at this⟩
      have HBA := As.mk hbA
      clear hbA
      go_wp2_with (first
        | (go_at_call_of 58 (Value.int .i64 x); refine (HTH.out _ x HBA.out HXB.out).mono ?_; rintro e w2 ⟨rfl, hb2⟩; have HB2 := As.mk (below_seq HBA.out hb2); obtain ⟨z0, z1, z2, z3⟩ := set3 (cell_block_below hb2 HZ0.out))
        | (go_at_call_of 58 (Value.int .i64 y); refine (HTH.out _ y HB2.out HYB.out).mono ?_; rintro e w3 ⟨rfl, hb3⟩; have HB3 := As.mk (below_seq HB2.out hb3); obtain ⟨q0, q1, q2, q3⟩ := set3 (cell_block_below hb3 (cell_block_below hb2 HZ0.out)))
        | (go_at_call 59; refine (Put_calls T (E.take k) x f y w.heap.size (w1.heap.size + 1 + 1) _ _ _ N R _ (hG.out.below HB3.out) hH.out HKL.out HOKT.out HY8.out).mono ?_; rintro e w4 ⟨rfl, hm4, N4, R4, hg4, hh4⟩))
      have hfin : As (Below w.heap.size w w4) := ⟨hB.out.trans (((HB3.out).mono hB.out.size).trans (hm4.below (fun k hk => hk) (Nat.le_trans hB.out.size HB3.out.size)))⟩
      go_roundw
      case rel => exact ⟨k + 1, by go_num, by omega, N4, R4, ⟨by rw [HTS.out]; exact hg4⟩, ⟨by rw [HTS.out]; exact hh4⟩, hfin⟩
      case measure => simp [intOf]; omega
    · go_wp2
      go_ret2
      have := hG.out
      have h2 := hH.out
      rw [List.take_of_length_le (by omega)] at this h2
      exact ⟨_, rfl, ⟨_, _, _, _, _, _, this, h2⟩, hB.out⟩
end Go.Proofs.YtalnfhipggbdlaaGreatDoor
