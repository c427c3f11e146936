/- ints.Set in its list: Of, List, Merge. -/
import Derived.Test.YtalnfhipggbdlaaGreatDoorS1
import Derived.Test.YtalnfhipggbdlaaGreatDoorR5
namespace Go.Proofs.YtalnfhipggbdlaaGreatDoor
open Go.RowKit
set_option linter.unusedVariables false
set_option linter.unusedSimpArgs false

set_option maxRecDepth 100000 in
theorem Of_calls (w : World) : Calls Tryz.prog 79 #[.slice none 0 0] w fun e w' => ∃ b, e = .returned (.pointer (some ⟨b, 0, none⟩)) ∧ w.heap.size ≤ b ∧ w'.heap[b]? = some (.cells #[.slice none 0 0, .slice none 0 0, .int .i64 0] 141 (0, 0)) ∧ Below w.heap.size w w' := by
  go_enter Tryz.func79, Tryz.ntmps79
  go_wp2
  go_loopw [10] (fun v wr => v = .int .i64 0 ∧ wr = w.alloc (.cells #[.slice none 0 0, .slice none 0 0, .int .i64 0] 141)) (fun v _ => 0)
  case atStart => exact ⟨rfl, rfl⟩
  case round =>
    obtain ⟨rfl, rfl⟩ := hrel
    go_wp2
    go_ret
    exact ⟨_, rfl, Nat.le_refl _, heap_alloc_new _ _, by go_grown⟩

/-- A set that is only read; nil is empty. -/
def SetV (w : World) (p : Value) (l : List Int) : Prop :=
  (p = .pointer none ∧ l = []) ∨ ∃ b v, p = .pointer (some ⟨b, 0, none⟩) ∧ w.heap[b]? = some (.cells #[v, .slice none 0 0, .int .i64 l.length] 141 (0, 0)) ∧ RdI w (fun _ => True) v l
theorem SetV.below {w w1 : World} {p : Value} {l : List Int} (h : SetV w p l) (hb : Below w.heap.size w w1) : SetV w1 p l := by
  rcases h with h | ⟨b, v, h1, h2, h3⟩
  · exact Or.inl h
  · exact Or.inr ⟨b, v, h1, (hb.block b (Array.getElem?_eq_some_iff.1 h2).1).trans h2, Rd.below h3 hb⟩

set_option maxRecDepth 100000 in
theorem List_calls (l : List Int) (p : Value) (w : World) (hp : SetV w p l) (hl : l.length < 1000000) :
    Calls Tryz.prog 85 #[p] w fun e w' => ∃ v', e = .returned v' ∧ w'.ownsRow w.heap.size 3 1 v' l.length (ints l) ∧ Below w.heap.size w w' := by
  rcases hp with ⟨rfl, rfl⟩ | ⟨b, v, rfl, hb, hr⟩
  · have hq := eql_nil122
    go_enter Tryz.func85, Tryz.ntmps85
    go_wp2
    go_ret
    exact ⟨_, rfl, own_nil _ _ _ _, by go_grown⟩
  · have hq := eql_ptr122
    obtain ⟨A, c, rfl, _, _⟩ := Rd.form hr
    obtain ⟨h0, h1, h2, h3⟩ := set3 hb
    have HB := As.mk hb
    have HR := As.mk hr
    clear hb hr
    go_enter Tryz.func85, Tryz.ntmps85
    go_wp2_with (first
      | (go_at_call 101; refine (Many_calls b _ _ _ HB.out).mono ?_; rintro e w1 ⟨rfl, hb1⟩; have k0 := cell_below hb1 h0)
      | (go_at_call 65; refine (CloneI_calls l _ _ _ (Rd.below HR.out hb1) (by omega)).mono ?_; rintro e w2 ⟨v2, rfl, ho2, hb2⟩; have HO2 := As.mk ho2; clear ho2))
    go_ret
    exact ⟨_, rfl, own_lower HO2.out hb1.size, below_seq hb1 hb2⟩

/-- The least objects. -/
def okO (l : List Int) : Prop := ∀ x ∈ l, 0 ≤ x ∧ x < 8
theorem okO_len {l : List Int} (h : okO l) (hs : l.Pairwise (· < ·)) : l.length ≤ 8 := by
  have : ∀ (l : List Int) (k : Nat), l.Pairwise (· < ·) → (∀ x ∈ l, ((8 : Int) - k) ≤ x ∧ x < 8) → k ≤ 8 → l.length ≤ k := by
    intro l
    induction l with
    | nil => intro k _ _ _; simp
    | cons a l ih =>
      intro k hs h hk
      have ha := h a (by simp)
      have hp := List.pairwise_cons.1 hs
      cases k with
      | zero => omega
      | succ k =>
        have := ih k hp.2 (fun x hx => ⟨by have := hp.1 x hx; omega, (h x (List.mem_cons_of_mem _ hx)).2⟩) (by omega)
        simp; omega
  exact this l 8 hs (fun x hx => by simpa using h x hx) (by omega)
def mergeL (l m : List Int) : List Int := m.foldl (fun s x => ins x s) l
theorem mergeL_ok {m : List Int} (hm : okO m) : ∀ l, okO l → okO (mergeL l m) := by
  induction m with
  | nil => intro l h; exact h
  | cons a m ih =>
    intro l h
    exact ih (fun x hx => hm x (List.mem_cons_of_mem _ hx)) _ (fun x hx => by
      rcases (ins_mem a x l).1 hx with rfl | hx
      · exact hm _ (by simp)
      · exact h x hx)
theorem mergeL_up (m : List Int) : ∀ l : List Int, l.Pairwise (· < ·) → (mergeL l m).Pairwise (· < ·) := by
  induction m with
  | nil => intro l h; exact h
  | cons a m ih => intro l h; exact ih _ (ins_up a l h)
theorem mergeL_mem (x : Int) (m : List Int) : ∀ l : List Int, x ∈ mergeL l m ↔ x ∈ l ∨ x ∈ m := by
  induction m with
  | nil => intro l; simp [mergeL]
  | cons a m ih =>
    intro l
    show x ∈ mergeL (ins a l) m ↔ _
    rw [ih, ins_mem]
    simp only [List.mem_cons]
    constructor
    · rintro ((h | h) | h) <;> simp [h]
    · rintro (h | h | h) <;> simp [h]
theorem okO_take {l : List Int} (h : okO l) (k : Nat) : okO (l.take k) := fun x hx => h x (List.mem_of_mem_take hx)

set_option maxRecDepth 100000 in
set_option maxHeartbeats 1000000 in
theorem Merge_calls (l m : List Int) (b base : Nat) (v p : Value) (w : World) (hb : w.heap[b]? = some (.cells #[v, .slice none 0 0, .int .i64 l.length] 141 (0, 0)))
    (hO : w.ownsRow base 3 1 v l.length (ints l)) (hs : l.Pairwise (· < ·)) (hl : okO l) (hm : okO m) (hml : m.length < 1000000) (hp : SetV w p m) (hbase : base ≤ w.heap.size) :
    Calls Tryz.prog 84 #[.pointer (some ⟨b, 0, none⟩), p] w fun e w' => ∃ u v', e = .returned u ∧ w'.heap[b]? = some (.cells #[v', .slice none 0 0, .int .i64 (mergeL l m).length] 141 (0, 0)) ∧
      w'.ownsRow base 3 1 v' (mergeL l m).length (ints (mergeL l m)) ∧ Mv (fun k => k = b ∨ v.ownBlock = some k) w w' ∧ (v'.ownBlock = v.ownBlock ∨ ∃ g, v'.ownBlock = some g ∧ w.heap.size ≤ g) := by
  have HB := As.mk hb
  have HO := As.mk hO
  have HS := As.mk hs
  have HL := As.mk hl
  have HM := As.mk hm
  have HP := As.mk hp
  have HBS := As.mk hbase
  have hblt : b < w.heap.size := (Array.getElem?_eq_some_iff.1 hb).1
  have hq := eql_ptr122
  clear hb hO hs hl hm hp hbase
  go_enter Tryz.func84, Tryz.ntmps84
  go_wp2_with (go_at_call 85; refine (List_calls m p _ HP.out hml).mono ?_; rintro e w1 ⟨v1, rfl, ho1, hb1⟩; have HO1 := As.mk (own_rd ho1); obtain ⟨A1, c1, rfl⟩ := own_slice ho1; clear ho1)
  have HZ := As.mk hb1.size
  go_loopw [5, 13] (fun o u wr => ∃ k : Nat, u = .int .i64 k ∧ k ≤ m.length ∧ ∃ vs os, As (wr.heap[b]? = some (.cells #[vs, .slice none 0 0, .int .i64 (mergeL l (m.take k)).length] 141 (0, 0))) ∧
      As (wr.ownsRow base 3 1 vs (mergeL l (m.take k)).length (ints (mergeL l (m.take k)))) ∧ As (wr.ownsRow w1.heap.size 3 1 o os.length (ints os)) ∧ os.length ≤ k ∧
      As (Mv (fun k => k = b ∨ v.ownBlock = some k) w wr) ∧ As (vs.ownBlock = v.ownBlock ∨ ∃ g, vs.ownBlock = some g ∧ w.heap.size ≤ g) ∧
      As (RdI wr (fun q => q ≠ b ∧ vs.ownBlock ≠ some q ∧ o.ownBlock ≠ some q) (.slice A1 m.length c1) m) ∧ As (∀ q, o.ownBlock = some q → q ≠ b ∧ vs.ownBlock ≠ some q) ∧ As (w1.heap.size ≤ wr.heap.size)) (fun _ u _ => m.length - (intOf u).toNat)
  case atStart =>
    refine ⟨0, rfl, by omega, v, [], ⟨(hb1.block b hblt).trans HB.out⟩, ⟨own_below HO.out hb1⟩, ⟨own_nil _ _ _ _⟩, by simp, ⟨Mv.of_self hb1 _⟩, ⟨Or.inl rfl⟩, ⟨(HO1.out).mono (fun q hq _ => ⟨by have := hq.2; omega, ?_, by simp [Value.ownBlock]⟩)⟩, ⟨by simp [Value.ownBlock]⟩, ⟨Nat.le_refl _⟩⟩
    intro e
    have := (own_lt HO.out q e).2
    have := hq.2
    omega
  case round =>
    obtain ⟨k, rfl, hk, vs, os, hA, hV, hO, hos, hM, hat, hR, hap, hz⟩ := hrel
    by_cases hlt : k < m.length
    · obtain ⟨ad, rfl, e0⟩ := RdI.at hR.out k hlt
      have HS1 : As (mergeL l (m.take (k + 1)) = ins (m.getD k 0) (mergeL l (m.take k))) := ⟨foldl_step _ m k hlt 0 l⟩
      have HUP := As.mk (mergeL_up (m.take k) l HS.out)
      have HOK := As.mk (mergeL_ok (okO_take HM.out k) l HL.out)
      have hlen := okO_len HOK.out HUP.out
      have hx : 0 ≤ m.getD k 0 ∧ m.getD k 0 < 1048576 := by
        have := HM.out (m.getD k 0) (by rw [getD_at m k 0 hlt]; exact List.getElem_mem hlt)
        omega
      have HX := As.mk hx
      clear hx
      obtain ⟨OA, oc, rfl⟩ := own_slice hO.out
      have STEP : As (∀ (w2 : World) (v2 : Value), Mv (fun k => k = b ∨ vs.ownBlock = some k) wr w2 → (v2.ownBlock = vs.ownBlock ∨ ∃ g, v2.ownBlock = some g ∧ wr.heap.size ≤ g) →
          (As (w2.ownsRow w1.heap.size 3 1 (.slice OA os.length oc) os.length (ints os)) ∧ As (Mv (fun k => k = b ∨ v.ownBlock = some k) w w2) ∧ As (v2.ownBlock = v.ownBlock ∨ ∃ g, v2.ownBlock = some g ∧ w.heap.size ≤ g) ∧
          As (RdI w2 (fun q => q ≠ b ∧ v2.ownBlock ≠ some q ∧ (Value.slice OA os.length oc).ownBlock ≠ some q) (.slice (some ad) m.length c1) m) ∧ As (∀ q, (Value.slice OA os.length oc).ownBlock = some q → q ≠ b ∧ v2.ownBlock ≠ some q) ∧ As (w1.heap.size ≤ w2.heap.size))) := ⟨by
        intro w2 v2 HM2 HA2
        refine ⟨⟨?_⟩, ⟨?_⟩, ⟨?_⟩, ⟨?_⟩, ⟨?_⟩, ⟨Nat.le_trans hz.out HM2.size⟩⟩
        · exact own_move hO.out (fun q hq hlt => HM2.block q hlt (fun e => by have := hap.out q hq; rcases e with e | e; exact this.1 e; exact this.2 e))
        · exact hM.out.trans HM2 (fun q hq h => by
            rcases h with h | h
            · exact Or.inl h
            · rcases hat.out with h' | ⟨g, h', hg⟩
              · exact Or.inr (h'.symm.trans h)
              · rw [h'] at h; injection h with h; omega)
        · rcases HA2 with h | ⟨g, h, hg⟩
          · rw [h]; exact hat.out
          · exact Or.inr ⟨g, h, Nat.le_trans (Nat.le_trans HZ.out hz.out) hg⟩
        · refine ((Rd.bound hR.out).step (fun q hq hlt => HM2.block q hlt (fun e => ?_))).mono (fun q hq hlt => ⟨hq.1.1, ?_, hq.1.2.2⟩)
          · rcases e with e | e
            · exact hq.1.1 e
            · exact hq.1.2.1 e
          · rcases HA2 with h | ⟨g, h, hg⟩
            · rw [h]; exact hq.1.2.1
            · rw [h]; intro e; injection e with e; have := hq.2; omega
        · intro q hq
          refine ⟨(hap.out q hq).1, ?_⟩
          rcases HA2 with h | ⟨g, h, hg⟩
          · rw [h]; exact (hap.out q hq).2
          · rw [h]; intro e; injection e with e; have := (own_lt hO.out q hq).2; omega⟩
      have HBW : As (base ≤ wr.heap.size) := ⟨by have := HBS.out; have := HZ.out; have := hz.out; omega⟩
      generalize mergeL l (m.take k) = s at *
      generalize m.getD k 0 = x at *
      clear hO hM hat hR hap
      cases hc : s.contains x with
      | true =>
        have HC := As.mk hc
        clear hc
        go_wp2_with (go_at_call 82; refine (Add_calls s x b base vs _ hA.out hV.out HUP.out (by omega) HX.out HBW.out).mono ?_; rw [HC.out]; rintro e w2 ⟨v2, rfl, hb2, ho2, hm2, ha2⟩; have HB2 := As.mk hb2; have HO2 := As.mk ho2; obtain ⟨g1, g2, g3, g4, g5, g6⟩ := STEP.out w2 v2 hm2 ha2; clear hb2 ho2 hm2 ha2)
        go_roundw
        case rel => exact ⟨k + 1, by go_num, by omega, v2, os, ⟨by rw [HS1.out]; exact HB2.out⟩, ⟨by rw [HS1.out]; exact HO2.out⟩, g1, by omega, g2, g3, g4, g5, g6⟩
        case measure => simp [intOf]; omega
      | false =>
        have HC := As.mk hc
        clear hc
        go_wp2_with (first
          | (go_at_call 82; refine (Add_calls s x b base vs _ hA.out hV.out HUP.out (by omega) HX.out HBW.out).mono ?_; rw [HC.out]; rintro e w2 ⟨v2, rfl, hb2, ho2, hm2, ha2⟩; have HB2 := As.mk hb2; have HO2 := As.mk ho2; obtain ⟨g1, g2, g3, g4, g5, g6⟩ := STEP.out w2 v2 hm2 ha2; clear hb2 ho2 hm2 ha2)
          | (at_builtin; refine wp_append (g1.out.alloc _) (rd_box _ _ _) Tryz.underlying39 info3 rfl (by decide) (by decide) rfl rfl rfl rfl (ints_one [x]) rfl ?_ ?_ ?_))
        · have := g6.out; simp; omega
        · omega
        intro v3 w3 ho3 hg3 ha3
        have hbx : Below w2.heap.size w2 (w2.alloc (.cells #[Value.int .i64 x] 3)) := by go_grown
        have hgw : w2.grownBy w3 (Value.slice OA os.length oc).ownBlock := (World.grownBy_alloc _ _ _).trans hg3
        have hot : ∀ q, (Value.slice OA os.length oc).ownBlock = some q → w1.heap.size ≤ q := fun q hq => (own_lt g1.out q hq).1
        have hb2 : b < w2.heap.size := (Array.getElem?_eq_some_iff.1 HB2.out).1
        obtain ⟨VA, vc, rfl⟩ := own_slice HO2.out
        have f3 : v3.ownBlock = (Value.slice OA os.length oc).ownBlock ∨ ∃ g, v3.ownBlock = some g ∧ w2.heap.size ≤ g := by
          rcases ha3 with h | h
          · exact Or.inl h
          · exact Or.inr ⟨_, h, by simp⟩
        obtain ⟨A3, c3, rfl⟩ := own_slice ho3
        have HO3 := As.mk ho3
        clear ho3
        have k1 : As (w3.heap[b]? = some (.cells #[.slice VA (ins x s).length vc, .slice none 0 0, .int .i64 (ins x s).length] 141 (0, 0))) := ⟨(hgw.block b hb2 (fun e => (g5.out b e.symm).1 rfl)).trans HB2.out⟩
        have k2 : As (w3.ownsRow base 3 1 (.slice VA (ins x s).length vc) (ins x s).length (ints (ins x s))) := ⟨own_move HO2.out (fun q hq hlt => hgw.block q hlt (fun e => (g5.out q e.symm).2 hq))⟩
        have k3 : As (Mv (fun k => k = b ∨ v.ownBlock = some k) w w3) := ⟨g2.out.trans (Mv.of_grown hgw) (fun q hq h => by have := hot q h; have := HZ.out; omega)⟩
        have k4 : As (RdI w3 (fun q => q ≠ b ∧ (Value.slice VA (ins x s).length vc).ownBlock ≠ some q ∧ (Value.slice A3 (os.length + 1) c3).ownBlock ≠ some q) (.slice (some ad) m.length c1) m) := ⟨by
          refine ((Rd.bound g4.out).step (fun q hq hlt => hgw.block q hlt (fun e => hq.1.2.2 e.symm))).mono (fun q hq hlt => ⟨hq.1.1, hq.1.2.1, ?_⟩)
          rcases f3 with h | ⟨g, h, hg⟩
          · rw [h]; exact hq.1.2.2
          · rw [h]; intro e; injection e with e; have := hq.2; omega⟩
        have k5 : As (∀ q, (Value.slice A3 (os.length + 1) c3).ownBlock = some q → q ≠ b ∧ (Value.slice VA (ins x s).length vc).ownBlock ≠ some q) := ⟨by
          intro q hq
          rcases f3 with h | ⟨g, h, hg⟩
          · exact g5.out q (h.symm.trans hq)
          · rw [h] at hq
            injection hq with hq
            subst hq
            exact ⟨by omega, fun e => by have := (own_lt HO2.out _ e).2; omega⟩⟩
        have k6 : As (w1.heap.size ≤ w3.heap.size) := ⟨Nat.le_trans g6.out hgw.size⟩
        have k7 : As (w3.ownsRow w1.heap.size 3 1 (.slice A3 (os.length + 1) c3) (os ++ [x]).length (ints (os ++ [x]))) := ⟨by have := HO3.out; simpa [ints] using this⟩
        clear hgw hot f3
        go_wp2
        go_roundw
        case rel => exact ⟨k + 1, by go_num, by omega, .slice VA (ins x s).length vc, os ++ [x], ⟨by rw [HS1.out]; exact k1.out⟩, ⟨by rw [HS1.out]; exact k2.out⟩, k7, by simp; omega, k3, g3, k4, k5, k6⟩
        case measure => simp [intOf]; omega
    · go_wp2
      go_ret
      have hfin : mergeL l (m.take k) = mergeL l m := by rw [List.take_of_length_le (by omega)]
      have h1 := hA.out
      have h2 := hV.out
      rw [hfin] at h1 h2
      exact ⟨_, vs, rfl, h1, h2, hM.out, hat.out⟩
end Go.Proofs.YtalnfhipggbdlaaGreatDoor
