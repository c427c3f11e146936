/- The references of layer 23: Find, Single, Step, Led. -/
import Derived.Test.YtalnfhipggbdlaaGreatDoorR3
namespace Go.Proofs.YtalnfhipggbdlaaGreatDoor
open Go.RowKit
set_option linter.unusedVariables false
set_option linter.unusedSimpArgs false

def find (s : List Int) : List (List Int) → Int
  | [] => -1
  | x :: xs => if x = s then 0 else if find s xs < 0 then -1 else find s xs + 1
theorem find_cases (s : List Int) : ∀ S : List (List Int), (find s S = -1 ∧ s ∉ S) ∨ ∃ k : Nat, find s S = k ∧ k < S.length ∧ S.getD k [] = s ∧ ∀ i, i < k → S.getD i [] ≠ s
  | [] => Or.inl ⟨rfl, by simp⟩
  | x :: xs => by
    unfold find
    by_cases h : x = s
    · rw [if_pos h]
      exact Or.inr ⟨0, rfl, by simp, by simpa using h, fun i hi => by omega⟩
    · rw [if_neg h]
      rcases find_cases s xs with ⟨h1, h2⟩ | ⟨k, h1, h2, h3, h4⟩
      · rw [h1]
        exact Or.inl ⟨by simp, by simp [h2]; exact fun e => h e.symm⟩
      · rw [h1, if_neg (by omega)]
        refine Or.inr ⟨k + 1, by omega, by simp; omega, by simpa using h3, fun i hi => ?_⟩
        cases i with
        | zero => simpa using h
        | succ i => simpa using h4 i (by omega)
theorem find_none (s : List Int) (S : List (List Int)) (h : ∀ i, i < S.length → S.getD i [] ≠ s) : find s S = -1 := by
  rcases find_cases s S with ⟨h1, _⟩ | ⟨k, h1, h2, h3, _⟩
  · exact h1
  · exact absurd h3 (h k h2)
theorem find_at (s : List Int) (S : List (List Int)) (k : Nat) (hk : k < S.length) (h : ∀ i, i < k → S.getD i [] ≠ s) (he : S.getD k [] = s) : find s S = k := by
  rcases find_cases s S with ⟨_, h2⟩ | ⟨j, h1, h2, h3, h4⟩
  · exact absurd (by rw [← he, getD_at S k [] hk]; exact List.getElem_mem hk) h2
  · rcases Nat.lt_trichotomy j k with hlt | heq | hgt
    · exact absurd h3 (h j hlt)
    · rw [h1, heq]
    · exact absurd he (h4 k hgt)

set_option maxHeartbeats 400000 in
theorem Find_calls (S : List (List Int)) (s : List Int) (v u : Value) (ok ok' : Nat → Prop) (w : World) (hS : RdL w ok v S) (hs : RdI w ok' u s) :
    Calls Tryz.prog 63 #[v, u] w fun e w' => e = .returned (.int .i64 (find s S)) ∧ Below w.heap.size w w' := by
  obtain ⟨A, c, rfl, hc1, hc2⟩ : ∃ A c, v = .slice A S.length c ∧ S.length ≤ c ∧ S.length ≤ 9223372036854775807 := by
    obtain ⟨vs, _, h, _⟩ := hS
    exact Rd.form h
  have HL := As.mk hS
  have HM := As.mk hs
  clear hS hs
  go_enter Tryz.func63, Tryz.ntmps63
  go_wp2
  go_loopw [5] (fun v wr => ∃ k : Nat, k ≤ S.length ∧ v = .int .i64 k ∧ As (∀ i, i < k → S.getD i [] ≠ s) ∧ Below w.heap.size w wr) (fun v _ => S.length - (intOf v).toNat)
  case atStart => exact ⟨0, by omega, rfl, ⟨fun i hi => by omega⟩, Below.refl _ _⟩
  case round =>
    obtain ⟨k, hk, rfl, hA, hb⟩ := hrel
    by_cases hlt : k < S.length
    · obtain ⟨ad, B, d, rfl, e0, r0⟩ := RdL.at (RdL.below HL.out hb) k hlt
      have HR := As.mk r0
      clear r0
      have HF := As.mk (find_at s S k hlt hA.out)
      have HS : As (S.getD k [] ≠ s → ∀ i, i < k + 1 → S.getD i [] ≠ s) := ⟨fun h i hi => by
        by_cases hik : i = k
        · rw [hik]; exact h
        · exact hA.out i (by omega)⟩
      generalize S.getD k [] = x at *
      by_cases hx : x = s
      · have HX := As.mk hx
        clear hx
        go_wp2_with (go_at_call 29; refine (Same_calls x s _ _ _ _ _ HR.out (Rd.below HM.out hb)).mono ?_; rw [decide_eq_true HX.out]; rintro e w1 ⟨rfl, hb1⟩)
        go_ret
        exact ⟨ret_int (HF.out HX.out).symm, hb.trans (hb1.mono hb.size)⟩
      · have HX := As.mk hx
        clear hx
        go_wp2_with (go_at_call 29; refine (Same_calls x s _ _ _ _ _ HR.out (Rd.below HM.out hb)).mono ?_; rw [decide_eq_false HX.out]; rintro e w1 ⟨rfl, hb1⟩)
        go_roundw
        case rel => exact ⟨k + 1, by omega, by go_num, ⟨HS.out HX.out⟩, hb.trans (hb1.mono hb.size)⟩
        case measure => simp [intOf]; omega
    · go_wp2
      go_ret
      exact ⟨ret_int (find_none s S (fun i hi => hA.out i (by omega))).symm, hb⟩

def singleR (T : List ByteArray) (S : List (List Int)) : Bool := S.all (fun s => decide ((typesR T s).length = 1))

set_option maxRecDepth 100000 in
set_option maxHeartbeats 400000 in
theorem SingleR_calls (T : List ByteArray) (E : List Edge) (S : List (List Int)) (tv ev v : Value) (ok ok' : Nat → Prop) (w : World) (hT : RdS w ok tv T) (hE : RdE w ok ev E) (hS : RdL w ok' v S) (hSl : ∀ i, i < S.length → (S.getD i []).length < 1000000) :
    Calls Tryz.prog 23 #[.agg #[tv, ev], v] w fun e w' => e = .returned (.bool (singleR T S)) ∧ Below w.heap.size w w' := by
  obtain ⟨A, c, rfl, hc1, hc2⟩ : ∃ A c, v = .slice A S.length c ∧ S.length ≤ c ∧ S.length ≤ 9223372036854775807 := by
    obtain ⟨vs, _, h, _⟩ := hS
    exact Rd.form h
  have HT := As.mk hT
  have HE := As.mk hE
  obtain ⟨TA, tc, rfl, _, _⟩ := Rd.form hT
  obtain ⟨EA, ec, rfl, _, _⟩ := Rd.form hE
  have HL := As.mk hS
  have HSL := As.mk hSl
  clear hS hT hE hSl
  go_enter Tryz.func23, Tryz.ntmps23
  go_wp2
  go_loopw [5] (fun v wr => ∃ k : Nat, k ≤ S.length ∧ v = .int .i64 k ∧ As ((S.take k).all (fun s => decide ((typesR T s).length = 1)) = true) ∧ wr.cell? ⟨w.heap.size, 0, none⟩ = some (.slice TA T.length tc) ∧ wr.cell? ⟨w.heap.size, 1, none⟩ = some (.slice EA E.length ec) ∧ Below w.heap.size w wr ∧ w.heap.size < wr.heap.size) (fun v _ => S.length - (intOf v).toNat)
  case atStart => exact ⟨0, by omega, rfl, ⟨by simp⟩, by simp, by simp, by go_grown, by simp⟩
  case round =>
    obtain ⟨k, hk, rfl, hA, hc0, hc1, hb, hsz⟩ := hrel
    by_cases hlt : k < S.length
    · obtain ⟨ad, B, d, rfl, e0, r0⟩ := RdL.at (RdL.below HL.out hb) k hlt
      have HR := As.mk r0
      clear r0
      have HS := As.mk (all_step S (fun s => decide ((typesR T s).length = 1)) k hlt [] hA.out)
      have HN : As (S.all (fun s => decide ((typesR T s).length = 1)) = true → decide ((typesR T (S.getD k [])).length = 1) = true) := ⟨fun h => all_get S _ h k hlt []⟩
      have HLn := As.mk (HSL.out k hlt)
      generalize S.getD k [] = x at *
      go_wp2
      go_still_tail 5, (by kernel_rfl)
      have hbd : Below wr.heap.size wr wr.drew := (Below.refl _ _).drew
      have HT' := As.mk (Rd.below HT.out (hb.trans (hbd.mono hb.size)))
      have HE' := As.mk (Rd.below HE.out (hb.trans (hbd.mono hb.size)))
      have HR' := As.mk (Rd.below HR.out hbd)
      have HB' := As.mk (hb.trans (hbd.mono hb.size))
      have d0 := cell_below hbd hc0
      have d1 := cell_below hbd hc1
      have ds := Nat.lt_of_lt_of_le hsz hbd.size
      clear hbd HR hb hc0 hc1 hsz e0
      change wpList _ _ _ _ _ wr.drew
      generalize wr.drew = wd at *
      by_cases h1 : (typesR T x).length = 1
      · have h1b : (((typesR T x).length : Int) != 1) = false := by simp [h1]
        have H1 := As.mk h1
        clear h1
        go_wp2_with (go_at_call 31; refine (TypesR_calls T E x _ _ _ ok ok' _ HT'.out HE'.out HR'.out HLn.out).mono ?_; rintro e w1 ⟨v1, rfl, hr1, hb1⟩; obtain ⟨A1, c1, rfl, _, _⟩ := Rd.form hr1; have k0 := cell_below hb1 d0; have k1 := cell_below hb1 d1; clear hr1)
        go_roundw
        case rel => exact ⟨k + 1, by omega, by go_num, ⟨by rw [HS.out]; exact decide_eq_true H1.out⟩, k0, k1, (HB'.out).trans (hb1.mono (HB'.out).size), Nat.lt_of_lt_of_le ds hb1.size⟩
        case measure => simp [intOf]; omega
      · have h1b : (((typesR T x).length : Int) != 1) = true := by rw [bne_iff_ne]; omega
        have H1 := As.mk h1
        clear h1
        go_wp2_with (go_at_call 31; refine (TypesR_calls T E x _ _ _ ok ok' _ HT'.out HE'.out HR'.out HLn.out).mono ?_; rintro e w1 ⟨v1, rfl, hr1, hb1⟩; obtain ⟨A1, c1, rfl, _, _⟩ := Rd.form hr1; have k0 := cell_below hb1 d0; have k1 := cell_below hb1 d1; clear hr1)
        go_ret
        exact ⟨ret_bool (eq_false_of HN.out (decide_eq_false H1.out)).symm, (HB'.out).trans (hb1.mono (HB'.out).size)⟩
    · go_wp2
      go_ret
      exact ⟨ret_bool (by have := hA.out; rw [List.take_of_length_le (by omega)] at this; exact this.symm), hb⟩

def stepR (E : List Edge) (S : List (List Int)) (i f : Int) : Int :=
  if i < 0 ∨ (S.length : Int) ≤ i then -1 else if nextR f (S.getD i.toNat []) E = [] then -1 else find (nextR f (S.getD i.toNat []) E) S

set_option maxRecDepth 100000 in
set_option maxHeartbeats 400000 in
theorem StepR_calls (T : List ByteArray) (E : List Edge) (S : List (List Int)) (i f : Int) (tv ev v : Value) (ok ok' : Nat → Prop) (w : World) (hT : RdS w ok tv T) (hE : RdE w ok ev E) (hS : RdL w ok' v S) (hl : E.length < 1000000) :
    Calls Tryz.prog 32 #[.agg #[tv, ev], v, .int .i64 i, .int .i64 f] w fun e w' => e = .returned (.int .i64 (stepR E S i f)) ∧ Below w.heap.size w w' := by
  obtain ⟨A, c, rfl, hc1, hc2⟩ : ∃ A c, v = .slice A S.length c ∧ S.length ≤ c ∧ S.length ≤ 9223372036854775807 := by
    obtain ⟨vs, _, h, _⟩ := hS
    exact Rd.form h
  have HT := As.mk hT
  have HE := As.mk hE
  obtain ⟨TA, tc, rfl, _, _⟩ := Rd.form hT
  obtain ⟨EA, ec, rfl, _, _⟩ := Rd.form hE
  have HL := As.mk hS
  clear hS hT hE
  by_cases h1 : i < 0
  · go_enter Tryz.func32, Tryz.ntmps32
    go_wp2
    go_ret
    exact ⟨ret_int (by rw [stepR, if_pos (Or.inl h1)]), by go_grown⟩
  by_cases h2 : (S.length : Int) ≤ i
  · go_enter Tryz.func32, Tryz.ntmps32
    go_wp2
    go_ret
    exact ⟨ret_int (by rw [stepR, if_pos (Or.inr h2)]), by go_grown⟩
  have i0 : 0 ≤ i := by omega
  have i1 : i < (S.length : Int) := by omega
  obtain ⟨ad, B, d, rfl, e0, r0⟩ := RdL.at HL.out i.toNat (by omega)
  have HR := As.mk r0
  clear r0
  have HD : As (stepR E S i f = if nextR f (S.getD i.toNat []) E = [] then -1 else find (nextR f (S.getD i.toNat []) E) S) := ⟨by rw [stepR, if_neg (by omega)]⟩
  generalize S.getD i.toNat [] = x at *
  obtain ⟨w0, w1⟩ := box2 w (.slice TA T.length tc) (.slice EA E.length ec)
  have hbw : Below w.heap.size w (w.alloc (.cells #[.slice TA T.length tc, .slice EA E.length ec] 25)) := by go_grown
  go_enter Tryz.func32, Tryz.ntmps32
  go_wp2
  have e1 := cell_below hbw e0
  generalize w.alloc (.cells #[.slice TA T.length tc, .slice EA E.length ec] 25) = wa at *
  clear e0
  go_still_tail 6, (by kernel_rfl)
  have hbd : Below w.heap.size w wa.drew := hbw.drew
  have HT' := As.mk (Rd.below HT.out hbd)
  have HE' := As.mk (Rd.below HE.out hbd)
  have HR' := As.mk (Rd.below HR.out hbd)
  have HL' := As.mk (RdL.below HL.out hbd)
  have HB' := As.mk hbd
  clear hbd HR hbw e1 w0 w1
  change wpList _ _ _ _ _ wa.drew
  generalize wa.drew = wd at *
  by_cases h3 : nextR f x E = []
  · have HN := As.mk (show (nextR f x E).length = 0 by rw [h3]; rfl)
    have HE3 := As.mk h3
    clear h3
    go_wp2_with (go_at_call 39; refine (NextR_calls T E f x _ _ _ ok _ _ HT'.out HE'.out HR'.out hl).mono ?_; rintro e w1 ⟨v1, rfl, hr1, hb1⟩; obtain ⟨A1, c1, rfl, _, _⟩ := Rd.form hr1; rw [HN.out]; clear hr1)
    go_ret
    exact ⟨ret_int (by rw [HD.out, if_pos HE3.out]), (HB'.out).trans (hb1.mono (HB'.out).size)⟩
  · have hn : (((nextR f x E).length : Int) == 0) = false := by
      rw [beq_eq_false_iff_ne]
      intro hh
      exact h3 (List.eq_nil_of_length_eq_zero (by omega))
    have HE3 := As.mk h3
    clear h3
    go_wp2_with (first
      | (go_at_call 39; refine (NextR_calls T E f x _ _ _ ok _ _ HT'.out HE'.out HR'.out hl).mono ?_; rintro e w1 ⟨v1, rfl, hr1, hb1⟩; obtain ⟨A1, c1, rfl, _, _⟩ := Rd.form hr1; have HR1 := As.mk hr1; clear hr1)
      | (go_at_call 63; refine (Find_calls S (nextR f x E) _ _ _ _ _ (RdL.below HL'.out hb1) HR1.out).mono ?_; rintro e w2 ⟨rfl, hb2⟩))
    go_ret
    exact ⟨ret_int (by rw [HD.out, if_neg HE3.out]), ((HB'.out).trans (hb1.mono (HB'.out).size)).trans (hb2.mono (Nat.le_trans (HB'.out).size hb1.size))⟩
end Go.Proofs.YtalnfhipggbdlaaGreatDoor
