/- The reference graph: Small, Right, Light, Fields, Next. -/
import Derived.Test.YtalnfhipggbdlaaGreatDoorR1
import Derived.StillTailTactics
namespace Go.Proofs.YtalnfhipggbdlaaGreatDoor
open Go.RowKit
set_option linter.unusedVariables false
set_option linter.unusedSimpArgs false

/-- An edge: from, field, to. -/
abbrev Edge := Int × Int × Int
def zE : Edge := (0, 0, 0)
def edge1 (e : Edge) : List Value := [.int .i64 e.1, .int .i64 e.2.1, .int .i64 e.2.2]
def edges (E : List Edge) : List Value := E.flatMap edge1
theorem edges_length : ∀ E : List Edge, (edges E).length = E.length * 3
  | [] => rfl
  | e :: E => by
    have := edges_length E
    simp only [edges, List.flatMap_cons, List.length_append, List.length_cons] at this ⊢
    simp only [edge1, List.length_cons, List.length_nil]
    omega
theorem edges_at : ∀ (E : List Edge) (i : Nat) (h : i < E.length), (edges E)[i * 3]? = some (.int .i64 (E.getD i zE).1) ∧ (edges E)[i * 3 + 1]? = some (.int .i64 (E.getD i zE).2.1) ∧ (edges E)[i * 3 + 2]? = some (.int .i64 (E.getD i zE).2.2)
  | [], i, h => by simp at h
  | e :: E, 0, h => ⟨rfl, rfl, rfl⟩
  | e :: E, i + 1, h => by
    have := edges_at E i (by simpa using h)
    have hs : ∀ j, (edges (e :: E))[(i + 1) * 3 + j]? = (edges E)[i * 3 + j]? := by
      intro j
      show (edge1 e ++ edges E)[(i + 1) * 3 + j]? = _
      rw [List.getElem?_append_right (by simp [edge1]; omega)]
      congr 1
      simp [edge1]; omega
    have h0 := hs 0
    simp only [Nat.add_zero] at h0
    rw [h0, hs 1, hs 2]
    simpa using this
def RdE (w : World) (ok : Nat → Prop) (v : Value) (E : List Edge) : Prop := Rd w ok v E.length (edges E)
theorem RdE.at {w : World} {ok : Nat → Prop} {A : Option Addr} {c : Nat} {E : List Edge} (h : RdE w ok (.slice A E.length c) E) (i : Nat) (h1 : i < E.length) : ∃ ad, A = some ad ∧
    w.cell? (ad.add (i * 3)) = some (.int .i64 (E.getD i zE).1) ∧ w.cell? ⟨(ad.add (i * 3)).block, (ad.add (i * 3)).off + 1, none⟩ = some (.int .i64 (E.getD i zE).2.1) ∧
    w.cell? ⟨(ad.add (i * 3)).block, (ad.add (i * 3)).off + 2, none⟩ = some (.int .i64 (E.getD i zE).2.2) := by
  obtain ⟨A', c', he, _, _, h3⟩ := h
  injection he with he1 he2 he3
  subst he1
  obtain ⟨ad, hA, _, hc⟩ := h3 (by rw [edges_length]; omega)
  obtain ⟨g0, g1, g2⟩ := edges_at E i h1
  refine ⟨ad, hA, hc _ _ g0, ?_, ?_⟩
  · rw [← add_field _ _ 1 (by omega)]; exact hc _ _ g1
  · rw [← add_field _ _ 2 (by omega)]; exact hc _ _ g2

theorem Small_calls (T : List ByteArray) (E : List Edge) (tv ev : Value) (ok : Nat → Prop) (w : World) (hT : RdS w ok tv T) (hE : RdE w ok ev E) :
    Calls Tryz.prog 55 #[.agg #[tv, ev]] w fun e w' => e = .returned (.bool (decide ((T.length : Int) ≤ 20) && decide ((E.length : Int) ≤ 60))) ∧ Below w.heap.size w w' := by
  obtain ⟨TA, tc, rfl, _, _⟩ := Rd.form hT
  obtain ⟨EA, ec, rfl, _, _⟩ := Rd.form hE
  clear hT hE
  by_cases h : (T.length : Int) ≤ 20
  · have h1 : decide ((T.length : Int) ≤ 20) = true := decide_eq_true h
    by_cases h2 : (E.length : Int) ≤ 60
    · have h3 : decide ((E.length : Int) ≤ 60) = true := decide_eq_true h2
      go_enter Tryz.func55, Tryz.ntmps55
      go_wp2
      go_ret
      exact ⟨by simp [h1, h3], by go_grown⟩
    · have h3 : decide ((E.length : Int) ≤ 60) = false := decide_eq_false h2
      go_enter Tryz.func55, Tryz.ntmps55
      go_wp2
      go_ret
      exact ⟨by simp [h1, h3], by go_grown⟩
  · have h1 : decide ((T.length : Int) ≤ 20) = false := decide_eq_false h
    go_enter Tryz.func55, Tryz.ntmps55
    go_wp2
    go_ret
    exact ⟨by simp [h1], by go_grown⟩

def okE (n : Nat) (e : Edge) : Bool := decide (0 ≤ e.1) && decide (e.1 < (n : Int)) && decide (0 ≤ e.2.2) && decide (e.2.2 < (n : Int))

set_option maxHeartbeats 400000 in
theorem Right_calls (T : List ByteArray) (E : List Edge) (tv ev : Value) (ok : Nat → Prop) (w : World) (hT : RdS w ok tv T) (hE : RdE w ok ev E) (hl : E.length < 1000000) :
    Calls Tryz.prog 56 #[.agg #[tv, ev]] w fun e w' => e = .returned (.bool (E.all (okE T.length))) ∧ Below w.heap.size w w' := by
  obtain ⟨TA, tc, rfl, _, _⟩ := Rd.form hT
  obtain ⟨EA, ec, rfl, _, _⟩ := Rd.form hE
  have HE := As.mk hE
  clear hE hT
  go_enter Tryz.func56, Tryz.ntmps56
  go_wp2
  go_loopw [3] (fun v wr => ∃ k : Nat, k ≤ E.length ∧ v = .int .i64 k ∧ As ((E.take k).all (okE T.length) = true) ∧ wr.cell? ⟨w.heap.size, 0, none⟩ = some (.slice TA T.length tc) ∧ wr.cell? ⟨w.heap.size, 1, none⟩ = some (.slice EA E.length ec) ∧ Below w.heap.size w wr ∧ w.heap.size < wr.heap.size) (fun v _ => E.length - (intOf v).toNat)
  case atStart => exact ⟨0, by omega, rfl, ⟨by simp⟩, by simp, by simp, by go_grown, by simp⟩
  case round =>
    obtain ⟨k, hk, rfl, hA, hc0, hc1, hb, hsz⟩ := hrel
    by_cases hlt : k < E.length
    · obtain ⟨ad, rfl, e0, e1, e2⟩ := RdE.at (Rd.below HE.out hb) k hlt
      have HS := As.mk (all_step E (okE T.length) k hlt zE hA.out)
      have HN : As (E.all (okE T.length) = true → okE T.length (E.getD k zE) = true) := ⟨fun h => all_get E _ h k hlt zE⟩
      generalize E.getD k zE = e at *
      obtain ⟨x, f, y⟩ := e
      by_cases c1 : x < 0
      · go_wp2
        go_ret
        exact ⟨ret_bool (eq_false_of HN.out (by simp [okE]; omega)).symm, by go_grown⟩
      by_cases c2 : x < (T.length : Int)
      · by_cases c3 : y < 0
        · go_wp2
          go_ret
          exact ⟨ret_bool (eq_false_of HN.out (by simp [okE]; omega)).symm, by go_grown⟩
        by_cases c4 : y < (T.length : Int)
        · go_wp2
          go_roundw
          case rel => exact ⟨k + 1, by omega, by go_num, ⟨by rw [HS.out]; simp [okE]; omega⟩, by go_simp, by go_simp, by go_grown, by go_simp⟩
          case measure => simp [intOf]; omega
        · go_wp2
          go_ret
          exact ⟨ret_bool (eq_false_of HN.out (by simp [okE]; omega)).symm, by go_grown⟩
      · go_wp2
        go_ret
        exact ⟨ret_bool (eq_false_of HN.out (by simp [okE]; omega)).symm, by go_grown⟩
    · go_wp2
      go_ret
      exact ⟨ret_bool (by rw [← hA.out, List.take_of_length_le (by omega)]), by go_grown⟩

/-- What is boxed: the graph that came in. -/
theorem box2 (w : World) (a b : Value) : (w.alloc (.cells #[a, b] 25)).cell? ⟨w.heap.size, 0, none⟩ = some a ∧ (w.alloc (.cells #[a, b] 25)).cell? ⟨w.heap.size, 1, none⟩ = some b := by
  constructor <;> simp

def light (T : List ByteArray) (E : List Edge) : Bool := decide ((T.length : Int) ≤ 20) && decide ((E.length : Int) ≤ 60) && E.all (okE T.length) && decide ((T.length : Int) ≤ 8)

set_option maxHeartbeats 400000 in
theorem Light_calls (T : List ByteArray) (E : List Edge) (tv ev : Value) (ok : Nat → Prop) (w : World) (hT : RdS w ok tv T) (hE : RdE w ok ev E) :
    Calls Tryz.prog 17 #[.agg #[tv, ev]] w fun e w' => e = .returned (.bool (light T E)) ∧ Below w.heap.size w w' := by
  have HT := As.mk hT
  have HE := As.mk hE
  obtain ⟨TA, tc, rfl, _, _⟩ := Rd.form hT
  obtain ⟨EA, ec, rfl, _, _⟩ := Rd.form hE
  clear hE hT
  cases h1 : (decide ((T.length : Int) ≤ 20) && decide ((E.length : Int) ≤ 60)) with
  | false =>
    have H1 := As.mk h1
    clear h1
    go_enter Tryz.func17, Tryz.ntmps17
    go_wp2_with (go_at_call 55; refine (Small_calls T E _ _ ok _ (Rd.below HT.out (by go_grown)) (Rd.below HE.out (by go_grown))).mono ?_; rw [H1.out]; rintro e w1 ⟨rfl, hb1⟩)
    go_ret
    exact ⟨ret_bool (by simp [light, H1.out]), below_seq (by go_grown) hb1⟩
  | true =>
    have H1 := As.mk h1
    have hEl : E.length < 1000000 := by simp at h1; omega
    clear h1
    have hw := box2 w (.slice TA T.length tc) (.slice EA E.length ec)
    have HW := As.mk hw
    clear hw
    cases h2 : E.all (okE T.length) with
    | false =>
      have H2 := As.mk h2
      clear h2
      go_enter Tryz.func17, Tryz.ntmps17
      go_wp2_with (first
        | (go_at_call 55; refine (Small_calls T E _ _ ok _ (Rd.below HT.out (by go_grown)) (Rd.below HE.out (by go_grown))).mono ?_; rw [H1.out]; rintro e w1 ⟨rfl, hb1⟩; have k0 := cell_below hb1 HW.out.1; have k1 := cell_below hb1 HW.out.2)
        | (go_at_call 56; refine (Right_calls T E _ _ ok _ (Rd.below HT.out (below_seq (by go_grown) hb1)) (Rd.below HE.out (below_seq (by go_grown) hb1)) hEl).mono ?_; rw [H2.out]; rintro e w2 ⟨rfl, hb2⟩))
      go_ret
      exact ⟨ret_bool (by simp [light, H1.out, H2.out]), below_seq (below_seq (by go_grown) hb1) hb2⟩
    | true =>
      have H2 := As.mk h2
      clear h2
      by_cases h3 : (T.length : Int) ≤ 8
      · have hd : decide ((T.length : Int) ≤ 8) = true := decide_eq_true h3
        go_enter Tryz.func17, Tryz.ntmps17
        go_wp2_with (first
          | (go_at_call 55; refine (Small_calls T E _ _ ok _ (Rd.below HT.out (by go_grown)) (Rd.below HE.out (by go_grown))).mono ?_; rw [H1.out]; rintro e w1 ⟨rfl, hb1⟩; have k0 := cell_below hb1 HW.out.1; have k1 := cell_below hb1 HW.out.2)
          | (go_at_call 56; refine (Right_calls T E _ _ ok _ (Rd.below HT.out (below_seq (by go_grown) hb1)) (Rd.below HE.out (below_seq (by go_grown) hb1)) hEl).mono ?_; rw [H2.out]; rintro e w2 ⟨rfl, hb2⟩; have k2 := cell_below hb2 k0))
        go_ret
        exact ⟨ret_bool (by simp [light, H1.out, H2.out]; omega), below_seq (below_seq (by go_grown) hb1) hb2⟩
      · have hd : decide ((T.length : Int) ≤ 8) = false := decide_eq_false h3
        go_enter Tryz.func17, Tryz.ntmps17
        go_wp2_with (first
          | (go_at_call 55; refine (Small_calls T E _ _ ok _ (Rd.below HT.out (by go_grown)) (Rd.below HE.out (by go_grown))).mono ?_; rw [H1.out]; rintro e w1 ⟨rfl, hb1⟩; have k0 := cell_below hb1 HW.out.1; have k1 := cell_below hb1 HW.out.2)
          | (go_at_call 56; refine (Right_calls T E _ _ ok _ (Rd.below HT.out (below_seq (by go_grown) hb1)) (Rd.below HE.out (below_seq (by go_grown) hb1)) hEl).mono ?_; rw [H2.out]; rintro e w2 ⟨rfl, hb2⟩; have k2 := cell_below hb2 k0))
        go_ret
        exact ⟨ret_bool (by simp [light, H1.out, H2.out]; omega), below_seq (below_seq (by go_grown) hb1) hb2⟩

/-- Fields, as the reference has them. -/
def fldsR (os : List Int) (E : List Edge) : List Int := E.foldl (fun out e => if os.length = 0 ∨ has os e.1 = true then ins e.2.1 out else out) []
def nextR (f : Int) (os : List Int) (E : List Edge) : List Int := E.foldl (fun out e => if e.2.1 = f ∧ has os e.1 = true then ins e.2.2 out else out) []
theorem foldl_step {α β : Type} (g : β → α → β) (l : List α) (k : Nat) (hk : k < l.length) (z : α) (b : β) : (l.take (k + 1)).foldl g b = g ((l.take k).foldl g b) (l.getD k z) := by
  rw [List.take_succ_eq_append_getElem hk, List.foldl_append, getD_at l k z hk]; rfl
theorem fldsR_len (os : List Int) (E : List Edge) (k : Nat) (hk : k ≤ E.length) : (fldsR os (E.take k)).length ≤ k := by
  induction k with
  | zero => simp [fldsR]
  | succ k ih =>
    unfold fldsR at ih ⊢
    rw [foldl_step _ E k (by omega) zE]
    split
    · have := ins_len (E.getD k zE).2.1 ((E.take k).foldl (fun out e => if os.length = 0 ∨ has os e.1 = true then ins e.2.1 out else out) [])
      have := ih (by omega)
      omega
    · have := ih (by omega)
      omega
theorem nextR_len (f : Int) (os : List Int) (E : List Edge) (k : Nat) (hk : k ≤ E.length) : (nextR f os (E.take k)).length ≤ k := by
  induction k with
  | zero => simp [nextR]
  | succ k ih =>
    unfold nextR at ih ⊢
    rw [foldl_step _ E k (by omega) zE]
    split
    · have := ins_len (E.getD k zE).2.2 ((E.take k).foldl (fun out e => if e.2.1 = f ∧ has os e.1 = true then ins e.2.2 out else out) [])
      have := ih (by omega)
      omega
    · have := ih (by omega)
      omega

set_option maxHeartbeats 1000000 in
theorem FieldsR_calls (T : List ByteArray) (E : List Edge) (os : List Int) (tv ev ov : Value) (ok ok' : Nat → Prop) (w : World) (hT : RdS w ok tv T) (hE : RdE w ok ev E) (hO : RdI w ok' ov os) (hl : E.length < 1000000) :
    Calls Tryz.prog 28 #[.agg #[tv, ev], ov] w fun e w' => ∃ v', e = .returned v' ∧ RdI w' (fun k => w.heap.size ≤ k) v' (fldsR os E) ∧ Below w.heap.size w w' := by
  obtain ⟨TA, tc, rfl, _, _⟩ := Rd.form hT
  obtain ⟨EA, ec, rfl, _, _⟩ := Rd.form hE
  obtain ⟨OA, oc, rfl, _, _⟩ := Rd.form hO
  have HE := As.mk hE
  have HO := As.mk hO
  clear hE hT hO
  go_enter Tryz.func28, Tryz.ntmps28
  go_wp2
  go_loopw [5, 6] (fun o v wr => ∃ k : Nat, k ≤ E.length ∧ v = .int .i64 k ∧ As (RdI wr (fun q => w.heap.size ≤ q) o (fldsR os (E.take k))) ∧ wr.cell? ⟨w.heap.size, 0, none⟩ = some (.slice TA T.length tc) ∧ wr.cell? ⟨w.heap.size, 1, none⟩ = some (.slice EA E.length ec) ∧ Below w.heap.size w wr ∧ w.heap.size < wr.heap.size) (fun _ v _ => E.length - (intOf v).toNat)
  case atStart => exact ⟨0, by omega, rfl, ⟨Rd.nil _ _⟩, by simp, by simp, by go_grown, by simp⟩
  case round =>
    obtain ⟨k, hk, rfl, hR, hc0, hc1, hb, hsz⟩ := hrel
    by_cases hlt : k < E.length
    · obtain ⟨ad, rfl, e0, e1, e2⟩ := RdE.at (Rd.below HE.out hb) k hlt
      have HS : As (fldsR os (E.take (k + 1)) = if os.length = 0 ∨ has os (E.getD k zE).1 = true then ins (E.getD k zE).2.1 (fldsR os (E.take k)) else fldsR os (E.take k)) := ⟨foldl_step _ E k hlt zE []⟩
      have HL := As.mk (fldsR_len os E k hk)
      generalize fldsR os (E.take k) = out at *
      generalize E.getD k zE = e at *
      obtain ⟨x, f, y⟩ := e
      by_cases h0 : os.length = 0
      · have h0b : ((os.length : Int) == 0) = true := by simp [h0]
        have H0 := As.mk h0
        clear h0
        go_wp2_with (go_at_call 69; refine (number_calls out f _ _ _ hR.out (by have := HL.out; omega)).mono ?_; rintro e w1 ⟨v1, rfl, hr1, hb1⟩; have k0 := cell_below hb1 hc0; have k1 := cell_below hb1 hc1; have HR1 := As.mk hr1; clear hr1)
        go_roundw
        case rel => exact ⟨k + 1, by omega, by go_num, ⟨by rw [HS.out, if_pos (Or.inl H0.out)]; exact HR1.out.mono (fun q hq _ => by rcases hq with h | h; exact h; exact Nat.le_trans hb.size h)⟩, k0, k1, hb.trans (hb1.mono hb.size), Nat.lt_of_lt_of_le hsz hb1.size⟩
        case measure => simp [intOf]; omega
      · have h0b : ((os.length : Int) == 0) = false := by simpa using h0
        cases hh : has os x with
        | true =>
          have HH := As.mk hh
          clear hh
          go_wp2_with (first
            | (go_at_call 68; refine (Has_calls os x _ ok' _ (Rd.below HO.out hb)).mono ?_; rw [HH.out]; rintro e w1 ⟨rfl, hb1⟩; have k0 := cell_below hb1 hc0; have k1 := cell_below hb1 hc1; have a0 := cell_below hb1 e0; have a1 := cell_below hb1 e1; have a2 := cell_below hb1 e2)
            | (go_at_call 69; refine (number_calls out f _ _ _ (Rd.below hR.out hb1) (by have := HL.out; omega)).mono ?_; rintro e w2 ⟨v1, rfl, hr1, hb2⟩; have m0 := cell_below hb2 k0; have m1 := cell_below hb2 k1; have HR1 := As.mk hr1; clear hr1))
          go_roundw
          case rel => exact ⟨k + 1, by omega, by go_num, ⟨by rw [HS.out, if_pos (Or.inr HH.out)]; exact HR1.out.mono (fun q hq _ => by rcases hq with h | h; exact h; exact Nat.le_trans hb.size (Nat.le_trans hb1.size h))⟩, m0, m1, (hb.trans (hb1.mono hb.size)).trans (hb2.mono (Nat.le_trans hb.size hb1.size)), Nat.lt_of_lt_of_le hsz (Nat.le_trans hb1.size hb2.size)⟩
          case measure => simp [intOf]; omega
        | false =>
          have HH := As.mk hh
          clear hh
          go_wp2_with (go_at_call 68; refine (Has_calls os x _ ok' _ (Rd.below HO.out hb)).mono ?_; rw [HH.out]; rintro e w1 ⟨rfl, hb1⟩; have k0 := cell_below hb1 hc0; have k1 := cell_below hb1 hc1)
          go_roundw
          case rel => exact ⟨k + 1, by omega, by go_num, ⟨by rw [HS.out, if_neg (by rw [HH.out]; simp; exact fun h => h0 (by rw [h]; rfl))]; exact Rd.below hR.out hb1⟩, k0, k1, hb.trans (hb1.mono hb.size), Nat.lt_of_lt_of_le hsz hb1.size⟩
          case measure => simp [intOf]; omega
    · go_wp2
      go_ret
      exact ⟨_, rfl, by have := hR.out; rwa [List.take_of_length_le (by omega)] at this, hb⟩

set_option maxHeartbeats 1000000 in
theorem NextR_calls (T : List ByteArray) (E : List Edge) (f0 : Int) (os : List Int) (tv ev ov : Value) (ok ok' : Nat → Prop) (w : World) (hT : RdS w ok tv T) (hE : RdE w ok ev E) (hO : RdI w ok' ov os) (hl : E.length < 1000000) :
    Calls Tryz.prog 39 #[.agg #[tv, ev], .int .i64 f0, ov] w fun e w' => ∃ v', e = .returned v' ∧ RdI w' (fun k => w.heap.size ≤ k) v' (nextR f0 os E) ∧ Below w.heap.size w w' := by
  obtain ⟨TA, tc, rfl, _, _⟩ := Rd.form hT
  obtain ⟨EA, ec, rfl, _, _⟩ := Rd.form hE
  obtain ⟨OA, oc, rfl, _, _⟩ := Rd.form hO
  have HE := As.mk hE
  have HO := As.mk hO
  clear hE hT hO
  go_enter Tryz.func39, Tryz.ntmps39
  go_wp2
  go_loopw [7, 8] (fun o v wr => ∃ k : Nat, k ≤ E.length ∧ v = .int .i64 k ∧ As (RdI wr (fun q => w.heap.size ≤ q) o (nextR f0 os (E.take k))) ∧ wr.cell? ⟨w.heap.size, 0, none⟩ = some (.slice TA T.length tc) ∧ wr.cell? ⟨w.heap.size, 1, none⟩ = some (.slice EA E.length ec) ∧ Below w.heap.size w wr ∧ w.heap.size < wr.heap.size) (fun _ v _ => E.length - (intOf v).toNat)
  case atStart => exact ⟨0, by omega, rfl, ⟨Rd.nil _ _⟩, by simp, by simp, by go_grown, by simp⟩
  case round =>
    obtain ⟨k, hk, rfl, hR, hc0, hc1, hb, hsz⟩ := hrel
    by_cases hlt : k < E.length
    · obtain ⟨ad, rfl, e0, e1, e2⟩ := RdE.at (Rd.below HE.out hb) k hlt
      have HS : As (nextR f0 os (E.take (k + 1)) = if (E.getD k zE).2.1 = f0 ∧ has os (E.getD k zE).1 = true then ins (E.getD k zE).2.2 (nextR f0 os (E.take k)) else nextR f0 os (E.take k)) := ⟨foldl_step _ E k hlt zE []⟩
      have HL := As.mk (nextR_len f0 os E k hk)
      generalize nextR f0 os (E.take k) = out at *
      generalize E.getD k zE = e at *
      obtain ⟨x, f, y⟩ := e
      by_cases h0 : f = f0
      · have h0b : (f == f0) = true := beq_iff_eq.2 h0
        have H0 := As.mk h0
        clear h0
        cases hh : has os x with
        | true =>
          have HH := As.mk hh
          clear hh
          go_wp2_with (first
            | (go_at_call 68; refine (Has_calls os x _ ok' _ (Rd.below HO.out hb)).mono ?_; rw [HH.out]; rintro e w1 ⟨rfl, hb1⟩; have k0 := cell_below hb1 hc0; have k1 := cell_below hb1 hc1; have a0 := cell_below hb1 e0; have a1 := cell_below hb1 e1; have a2 := cell_below hb1 e2)
            | (go_at_call 69; refine (number_calls out y _ _ _ (Rd.below hR.out hb1) (by have := HL.out; omega)).mono ?_; rintro e w2 ⟨v1, rfl, hr1, hb2⟩; have m0 := cell_below hb2 k0; have m1 := cell_below hb2 k1; have HR1 := As.mk hr1; clear hr1))
          go_roundw
          case rel => exact ⟨k + 1, by omega, by go_num, ⟨by rw [HS.out, if_pos ⟨H0.out, HH.out⟩]; exact HR1.out.mono (fun q hq _ => by rcases hq with h | h; exact h; exact Nat.le_trans hb.size (Nat.le_trans hb1.size h))⟩, m0, m1, (hb.trans (hb1.mono hb.size)).trans (hb2.mono (Nat.le_trans hb.size hb1.size)), Nat.lt_of_lt_of_le hsz (Nat.le_trans hb1.size hb2.size)⟩
          case measure => simp [intOf]; omega
        | false =>
          have HH := As.mk hh
          clear hh
          go_wp2_with (go_at_call 68; refine (Has_calls os x _ ok' _ (Rd.below HO.out hb)).mono ?_; rw [HH.out]; rintro e w1 ⟨rfl, hb1⟩; have k0 := cell_below hb1 hc0; have k1 := cell_below hb1 hc1)
          go_roundw
          case rel => exact ⟨k + 1, by omega, by go_num, ⟨by rw [HS.out, if_neg (by rw [HH.out]; simp)]; exact Rd.below hR.out hb1⟩, k0, k1, hb.trans (hb1.mono hb.size), Nat.lt_of_lt_of_le hsz hb1.size⟩
          case measure => simp [intOf]; omega
      · have h0b : (f == f0) = false := beq_eq_false_iff_ne.2 h0
        go_wp2
        go_roundw
        case rel => exact ⟨k + 1, by omega, by go_num, ⟨by rw [HS.out, if_neg (fun h => h0 h.1)]; exact hR.out⟩, hc0, hc1, hb, hsz⟩
        case measure => simp [intOf]; omega
    · go_wp2
      go_ret
      exact ⟨_, rfl, by have := hR.out; rwa [List.take_of_length_le (by omega)] at this, hb⟩
end Go.Proofs.YtalnfhipggbdlaaGreatDoor
