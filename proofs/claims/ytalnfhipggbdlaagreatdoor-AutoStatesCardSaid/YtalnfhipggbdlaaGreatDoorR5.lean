/- The references of layer 23: States, Led. -/
import Derived.Test.YtalnfhipggbdlaaGreatDoorR4
namespace Go.Proofs.YtalnfhipggbdlaaGreatDoor
open Go.RowKit
set_option linter.unusedVariables false
set_option linter.unusedSimpArgs false

theorem info39 : (Tryz.prog.info? 39).map (fun i => (i.zero, i.size, i.bytes)) = some (some (.slice none 0 0), 1, 24) := by kernel_rfl

theorem one_slice (A : Option Addr) (n c : Nat) : ∀ y ∈ [Value.slice A n c], y.oneCell' = true := by simp [Value.oneCell']
/-- A row of the call's own whose elements are lists of ints that are only read, none in this row. -/
def OwL (w : World) (base : Nat) (v : Value) (S : List (List Int)) : Prop :=
  ∃ vs : List Value, vs.length = S.length ∧ w.ownsRow base 39 1 v S.length vs ∧ ∀ (i : Nat) x u, S[i]? = some x → vs[i]? = some u → RdI w (fun q => v.ownBlock ≠ some q) u x
section
variable {w w1 : World} {base : Nat} {v v1 : Value} {S : List (List Int)}
theorem OwL.rd (h : OwL w base v S) : RdL w (fun _ => True) v S := by
  obtain ⟨vs, h1, h2, h3⟩ := h
  exact ⟨vs, h1, (own_rd h2).any, fun i x u hx hu => (h3 i x u hx hu).any⟩
theorem OwL.below (h : OwL w base v S) (hb : Below w.heap.size w w1) : OwL w1 base v S := by
  obtain ⟨vs, h1, h2, h3⟩ := h
  exact ⟨vs, h1, own_below h2 hb, fun i x u hx hu => (h3 i x u hx hu).below hb⟩
theorem OwL.lt (h : OwL w base v S) (q : Nat) (hq : v.ownBlock = some q) : base ≤ q ∧ q < w.heap.size := by
  obtain ⟨vs, _, h2, _⟩ := h
  exact own_lt h2 q hq
theorem OwL.form (h : OwL w base v S) : ∃ A c, v = .slice A S.length c := by
  obtain ⟨vs, _, h2, _⟩ := h
  exact own_slice h2
theorem OwL.appended {vs : List Value} {x : List Int} {u : Value} (hl : vs.length = S.length) (hf : ∀ (i : Nat) x u, S[i]? = some x → vs[i]? = some u → RdI w (fun q => v.ownBlock ≠ some q) u x) (hx : RdI w (fun q => v.ownBlock ≠ some q) u x)
    (ho : w1.ownsRow base 39 1 v1 (S.length + 1) (vs ++ [u])) (hg : w.grownBy w1 v.ownBlock) (hat : v1.ownBlock = v.ownBlock ∨ ∃ b, v1.ownBlock = some b ∧ w.heap.size ≤ b) : OwL w1 base v1 (S ++ [x]) := by
  have key : ∀ {y : List Int} {z : Value}, RdI w (fun q => v.ownBlock ≠ some q) z y → RdI w1 (fun q => v1.ownBlock ≠ some q) z y := fun {y z} h => rd_after h hg hat
  refine ⟨vs ++ [u], by simp [hl], by simpa using ho, fun i y z hy hz => ?_⟩
  rcases Nat.lt_or_ge i S.length with hlt | hge
  · rw [List.getElem?_append_left hlt] at hy
    rw [List.getElem?_append_left (by omega)] at hz
    exact key (hf i y z hy hz)
  · rw [List.getElem?_append_right hge] at hy
    rw [List.getElem?_append_right (by omega), hl] at hz
    cases hi : i - S.length with
    | zero =>
      rw [hi] at hy hz
      simp at hy hz
      subst hy hz
      exact key hx
    | succ j =>
      rw [hi] at hy
      simp at hy
end

def addSt (S : List (List Int)) (s : List Int) : List (List Int) := if find s S < 0 then S ++ [s] else S
def expandR (E : List Edge) (x : List Int) (S : List (List Int)) (fs : List Int) : List (List Int) := fs.foldl (fun S f => addSt S (nextR f x E)) S
def bfsR (E : List Edge) : Nat → Nat → List (List Int) → Option (List (List Int))
  | 0, _, _ => none
  | n + 1, i, S => if i < S.length then bfsR E n (i + 1) (expandR E (S.getD i []) S (fldsR (S.getD i []) E)) else some S
theorem addSt_le (S : List (List Int)) (s : List Int) : S.length ≤ (addSt S s).length := by unfold addSt; split <;> simp
theorem expandR_le (E : List Edge) (x : List Int) : ∀ (fs : List Int) (S : List (List Int)), S.length ≤ (expandR E x S fs).length
  | [], S => Nat.le_refl _
  | f :: fs, S => Nat.le_trans (addSt_le S _) (expandR_le E x fs _)
theorem addSt_get (S : List (List Int)) (s : List Int) (i : Nat) (hi : i < S.length) : (addSt S s).getD i [] = S.getD i [] := by
  unfold addSt
  split
  · rw [List.getD_eq_getElem?_getD, List.getD_eq_getElem?_getD, List.getElem?_append_left hi]
  · rfl
theorem expandR_get (E : List Edge) (x : List Int) (i : Nat) : ∀ (fs : List Int) (S : List (List Int)), i < S.length → (expandR E x S fs).getD i [] = S.getD i []
  | [], S, _ => rfl
  | f :: fs, S, h => (expandR_get E x i fs _ (Nat.lt_of_lt_of_le h (addSt_le S _))).trans (addSt_get S _ i h)
theorem expandR_take (E : List Edge) (x : List Int) (S : List (List Int)) (fs : List Int) (k : Nat) : (expandR E x S (fs.take k)).length ≤ (expandR E x S fs).length := by
  have h : expandR E x S fs = expandR E x (expandR E x S (fs.take k)) (fs.drop k) := by
    unfold expandR
    rw [← List.foldl_append, List.take_append_drop]
  rw [h]
  exact expandR_le E x _ _
theorem bfsR_le (E : List Edge) : ∀ (n i : Nat) (S R : List (List Int)), bfsR E n i S = some R → S.length ≤ R.length
  | 0, _, _, _, h => by simp [bfsR] at h
  | n + 1, i, S, R, h => by
    unfold bfsR at h
    split at h
    · exact Nat.le_trans (expandR_le E _ _ _) (bfsR_le E n _ _ R h)
    · injection h with h; rw [h]; exact Nat.le_refl _

set_option maxRecDepth 100000 in
set_option maxHeartbeats 2000000 in
theorem StatesR_calls (T : List ByteArray) (E : List Edge) (o : Int) (tv ev : Value) (ok : Nat → Prop) (w : World) (hT : RdS w ok tv T) (hE : RdE w ok ev E) (hl : E.length < 1000000) (N : Nat) (R : List (List Int)) (hR : bfsR E N 0 [[o]] = some R) (hRl : R.length < 1000000) :
    Calls Tryz.prog 20 #[.agg #[tv, ev], .int .i64 o] w fun e w' => ∃ v', e = .returned v' ∧ RdL w' (fun _ => True) v' R ∧ Below w.heap.size w w' := by
  have HT := As.mk hT
  have HE := As.mk hE
  obtain ⟨TA, tc, rfl, _, _⟩ := Rd.form hT
  obtain ⟨EA, ec, rfl, _, _⟩ := Rd.form hE
  have HRR := As.mk hR
  clear hT hE hR
  go_enter Tryz.func20, Tryz.ntmps20
  go_wp2
  go_loopg [5, 6] N (fun kq o v wr => ∃ (i : Nat) (S : List (List Int)), v = .int .i64 i ∧ i ≤ S.length ∧ As (bfsR E kq i S = some R) ∧ As (OwL wr (w.heap.size + 1) o S) ∧ As (Below w.heap.size w wr) ∧ wr.cell? ⟨w.heap.size, 0, none⟩ = some (.slice TA T.length tc) ∧ wr.cell? ⟨w.heap.size, 1, none⟩ = some (.slice EA E.length ec) ∧ w.heap.size < wr.heap.size)
  case atStart =>
    have hb1 : Below w.heap.size w (((w.alloc (.cells #[.slice TA T.length tc, .slice EA E.length ec] 25)).alloc (.cells #[.int .i64 o] 3)).alloc (.cells #[.slice (some ⟨w.heap.size + 1, 0, none⟩) 1 1] 39)) := by go_grown
    refine ⟨0, [[o]], rfl, by simp, HRR, ⟨[.slice (some ⟨w.heap.size + 1, 0, none⟩) 1 1], rfl, ?_, ?_⟩, ⟨hb1⟩, ?_, ?_, ?_⟩
    · have := own_lit ((w.alloc (.cells #[.slice TA T.length tc, .slice EA E.length ec] 25)).alloc (.cells #[.int .i64 o] 3)) (w.heap.size + 1) 39 1 1 #[.slice (some ⟨w.heap.size + 1, 0, none⟩) 1 1] (by simp) (by omega) rfl
      simpa using this
    · intro i x u hx hu
      cases i with
      | zero =>
        simp at hx hu
        subst hx hu
        have h := rd_box (w.alloc (.cells #[.slice TA T.length tc, .slice EA E.length ec] 25)) (.int .i64 o) 3
        have h2 := (h.below (w1 := ((w.alloc (.cells #[.slice TA T.length tc, .slice EA E.length ec] 25)).alloc (.cells #[.int .i64 o] 3)).alloc (.cells #[.slice (some ⟨w.heap.size + 1, 0, none⟩) 1 1] 39)) (by go_grown)).mono (ok' := fun q => (Value.slice (some ⟨w.heap.size + 1 + 1, 0, none⟩) 1 1).ownBlock ≠ some q) (fun q hq _ => by rw [hq]; simp [Value.ownBlock])
        unfold RdI ints
        simpa using h2
      | succ i => simp at hx
    · exact cell_below (w := w.alloc (.cells #[.slice TA T.length tc, .slice EA E.length ec] 25)) (by go_grown) (box2 w _ _).1
    · exact cell_below (w := w.alloc (.cells #[.slice TA T.length tc, .slice EA E.length ec] 25)) (by go_grown) (box2 w _ _).2
    · simp; omega
  case round =>
    obtain ⟨i, S, rfl, hi, hA, hO, hB, hc0, hc1, hsz⟩ := hrel
    cases gk with
    | zero => exact absurd hA.out (by simp [bfsR])
    | succ n =>
      have hA' := hA.out
      have HSR := As.mk (bfsR_le E _ _ _ _ hA.out)
      clear hA
      unfold bfsR at hA'
      by_cases hlt : i < S.length
      · rw [if_pos hlt] at hA'
        have HA := As.mk hA'
        clear hA'
        obtain ⟨SA, sc, rfl⟩ := OwL.form hO.out
        obtain ⟨ad, B, d, rfl, e0, r0⟩ := RdL.at (OwL.rd hO.out) i hlt
        have HX := As.mk r0
        clear r0
        have hxe : S.getD i [] = S.getD i [] := rfl
        obtain ⟨x, hx⟩ : ∃ x, x = S.getD i [] := ⟨_, rfl⟩
        rw [← hx] at e0 HX HA
        have HXE := As.mk hx
        clear hx hxe
        go_wp2
        go_still_tail 5, (by kernel_rfl)
        have hbd : Below wr.heap.size wr wr.drew := (Below.refl _ _).drew
        have HT' := As.mk (Rd.below HT.out ((hB.out).trans (hbd.mono (hB.out).size)))
        have HE' := As.mk (Rd.below HE.out ((hB.out).trans (hbd.mono (hB.out).size)))
        have HX' := As.mk (Rd.below HX.out hbd)
        have HO' := As.mk (OwL.below hO.out hbd)
        have HB' := As.mk ((hB.out).trans (hbd.mono (hB.out).size))
        have d0 := cell_below hbd hc0
        have d1 := cell_below hbd hc1
        have ds := Nat.lt_of_lt_of_le hsz hbd.size
        clear hbd HX hB hO hc0 hc1 hsz e0
        change wpList _ _ _ _ _ wr.drew
        generalize wr.drew = wd at *
        go_wp2_with (go_at_call 28; refine (FieldsR_calls T E x _ _ _ ok _ _ HT'.out HE'.out HX'.out hl).mono ?_; rintro e w1 ⟨v1, rfl, hr1, hb1⟩)
        have HF := As.mk hr1
        obtain ⟨FA, fc, rfl, _, hfl⟩ := Rd.form hr1
        clear hr1
        have HO1 := As.mk (OwL.below HO'.out hb1)
        have HOw := As.mk HO'.out
        have HB1 := As.mk ((HB'.out).trans (hb1.mono (HB'.out).size))
        have k0 := cell_below hb1 d0
        have k1 := cell_below hb1 d1
        have ks := Nat.lt_of_lt_of_le ds hb1.size
        have HRl := As.mk (bfsR_le E _ _ _ _ HA.out)
        clear hb1 HO' HB' d0 d1 ds HT' HE' HX'
        go_loopw [5, 8] (fun o v wr => ∃ (j : Nat), v = .int .i64 j ∧ j ≤ (fldsR x E).length ∧ As (OwL wr (w.heap.size + 1) o (expandR E x S ((fldsR x E).take j))) ∧ As (RdI wr (fun q => o.ownBlock ≠ some q) (.slice FA (fldsR x E).length fc) (fldsR x E)) ∧ As (Below w.heap.size w wr) ∧ wr.cell? ⟨w.heap.size, 0, none⟩ = some (.slice TA T.length tc) ∧ wr.cell? ⟨w.heap.size, 1, none⟩ = some (.slice EA E.length ec) ∧ w.heap.size < wr.heap.size) (fun _ v _ => (fldsR x E).length - (intOf v).toNat)
        case atStart => exact ⟨0, rfl, by omega, ⟨by simpa [expandR] using HO1.out⟩, ⟨(HF.out).mono (fun q hq _ e => by have := (OwL.lt HOw.out q e).2; omega)⟩, HB1, k0, k1, ks⟩
        case round =>
          clear HO1 HF HB1 k0 k1 ks HOw
          obtain ⟨j, rfl, hj, hO, hF, hB, hc0, hc1, hsz⟩ := hrel
          have HLe := As.mk (Nat.le_trans (expandR_take E x S (fldsR x E) j) HRl.out)
          have hgx : As ((expandR E x S ((fldsR x E).take j)).getD i [] = x) := ⟨by rw [expandR_get E x i _ S hlt]; exact HXE.out.symm⟩
          have hiS : i < (expandR E x S ((fldsR x E).take j)).length := Nat.lt_of_lt_of_le hlt (expandR_le E x _ S)
          by_cases hjl : j < (fldsR x E).length
          · obtain ⟨fad, rfl, e1⟩ := RdI.at hF.out j hjl
            have HST : As (expandR E x S ((fldsR x E).take (j + 1)) = addSt (expandR E x S ((fldsR x E).take j)) (nextR ((fldsR x E).getD j 0) x E)) := ⟨foldl_step _ (fldsR x E) j hjl 0 S⟩
            obtain ⟨S', hS'⟩ : ∃ S', S' = expandR E x S ((fldsR x E).take j) := ⟨_, rfl⟩
            rw [← hS'] at hO HLe hgx hiS HST
            clear hS'
            obtain ⟨SA', sc', rfl⟩ := OwL.form hO.out
            obtain ⟨ad', B', d', rfl, e2, r2⟩ := RdL.at (OwL.rd hO.out) i hiS
            rw [hgx.out] at e2 r2
            have HX := As.mk r2
            clear r2
            generalize (fldsR x E).getD j 0 = f at *
            go_wp2
            go_still_tail 9, (by kernel_rfl)
            have hbd : Below wr.heap.size wr wr.drew := (Below.refl _ _).drew
            have HT' := As.mk (Rd.below HT.out ((hB.out).trans (hbd.mono (hB.out).size)))
            have HE' := As.mk (Rd.below HE.out ((hB.out).trans (hbd.mono (hB.out).size)))
            have HX' := As.mk (Rd.below HX.out hbd)
            have HO' := As.mk (OwL.below hO.out hbd)
            have HF' := As.mk (Rd.below hF.out hbd)
            have HB' := As.mk ((hB.out).trans (hbd.mono (hB.out).size))
            have d0 := cell_below hbd hc0
            have d1 := cell_below hbd hc1
            have ds := Nat.lt_of_lt_of_le hsz hbd.size
            clear hbd HX hB hO hF hc0 hc1 hsz e1 e2
            change wpList _ _ _ _ _ wr.drew
            generalize wr.drew = wd at *
            by_cases hfi : find (nextR f x E) S' < 0
            · have HAD : As (addSt S' (nextR f x E) = S' ++ [nextR f x E]) := ⟨by rw [addSt, if_pos hfi]⟩
              have hS1 : S'.length + 1 < 1000000 := by
                have h1 := expandR_take E x S (fldsR x E) (j + 1)
                rw [HST.out, HAD.out] at h1
                have h2 := HRl.out
                simp at h1
                omega
              go_wp2_with (first
                | (go_at_call 39; refine (NextR_calls T E f x _ _ _ ok _ _ HT'.out HE'.out HX'.out hl).mono ?_; rintro e w1 ⟨v1, rfl, hr1, hb1⟩; have HN := As.mk hr1; obtain ⟨NA, nc, rfl, _, hnl⟩ := Rd.form hr1; clear hr1)
                | (go_at_call 63; refine (Find_calls S' (nextR f x E) _ _ _ _ _ (OwL.rd (OwL.below HO'.out hb1)) HN.out).mono ?_; rintro e w2 ⟨rfl, hb2⟩; obtain ⟨vs, hvl, hown, hvf⟩ := OwL.below (OwL.below HO'.out hb1) hb2; have HV := As.mk hown; have HVF := As.mk hvf; have HVL := As.mk hvl; have hz := Nat.le_trans (Nat.le_trans (HB'.out).size hb1.size) hb2.size; clear hown hvf hvl)
                | (at_builtin; refine wp_append (HV.out.alloc _) (rd_box _ _ _) Tryz.underlying35 info39 rfl (by decide) (by decide) rfl rfl rfl rfl (one_slice _ _ _) rfl ?_ ?_ ?_))
              · first | omega | (simp; omega)
              · omega
              intro v3 w3 ho3 hg3 ha3
              have hbx : Below w2.heap.size w2 (w2.alloc (.cells #[Value.slice NA (nextR f x E).length nc] 39)) := by go_grown
              have HB2 := As.mk ((((HB'.out).trans (hb1.mono (HB'.out).size)).trans (hb2.mono (Nat.le_trans (HB'.out).size hb1.size))).trans (hbx.mono hz))
              have HB3 := As.mk ((HB2.out).grown hg3 (HB2.out).size (fun q hq => by have := (own_lt HV.out q hq).1; omega))
              have HO3 : As (OwL w3 (w.heap.size + 1) v3 (expandR E x S ((fldsR x E).take (j + 1)))) := ⟨by
                rw [HST.out, HAD.out]
                refine OwL.appended (w := w2) (v := .slice (some ad') S'.length sc') HVL.out HVF.out ?_ ho3 ((World.grownBy_alloc _ _ _).trans hg3) ?_
                · refine (Rd.below HN.out hb2).mono (fun q hq _ => ?_)
                  intro e
                  have := (OwL.lt HO'.out q e).2
                  omega
                · rcases ha3 with h | h
                  · exact Or.inl h
                  · exact Or.inr ⟨_, h, by first | omega | (simp; omega)⟩⟩
              have hgw : w2.grownBy w3 (Value.slice (some ad') S'.length sc').ownBlock := (World.grownBy_alloc _ _ _).trans hg3
              have hna : ∀ q, (Value.slice (some ad') S'.length sc').ownBlock = some q → w.heap.size + 1 ≤ q := fun q hq => (own_lt HV.out q hq).1
              have HF3 := As.mk (rd_after (v1 := v3) (Rd.below (Rd.below HF'.out hb1) hb2) hgw (by
                rcases ha3 with h | h
                · exact Or.inl h
                · exact Or.inr ⟨_, h, by first | omega | (simp; omega)⟩))
              have hnb : some w.heap.size ≠ (Value.slice (some ad') S'.length sc').ownBlock := fun e => by have := hna _ e.symm; omega
              have m0 := cell_grown hgw (cell_below hb2 (cell_below hb1 d0)) hnb
              have m1 := cell_grown hgw (cell_below hb2 (cell_below hb1 d1)) hnb
              clear ho3 hgw hna hnb
              go_wp2
              go_roundw
              case rel => exact ⟨j + 1, by go_num, by omega, HO3, HF3, HB3, m0, m1, Nat.lt_of_lt_of_le ds (by have := hg3.size; have := hb1.size; have := hb2.size; simp at *; omega)⟩
              case measure => simp [intOf]; omega
            · have HAD : As (addSt S' (nextR f x E) = S') := ⟨by rw [addSt, if_neg hfi]⟩
              go_wp2_with (first
                | (go_at_call 39; refine (NextR_calls T E f x _ _ _ ok _ _ HT'.out HE'.out HX'.out hl).mono ?_; rintro e w1 ⟨v1, rfl, hr1, hb1⟩; have HN := As.mk hr1; obtain ⟨NA, nc, rfl, _, hnl⟩ := Rd.form hr1; clear hr1)
                | (go_at_call 63; refine (Find_calls S' (nextR f x E) _ _ _ _ _ (OwL.rd (OwL.below HO'.out hb1)) HN.out).mono ?_; rintro e w2 ⟨rfl, hb2⟩))
              have HB2 := As.mk (((HB'.out).trans (hb1.mono (HB'.out).size)).trans (hb2.mono (Nat.le_trans (HB'.out).size hb1.size)))
              have HO2 : As (OwL w2 (w.heap.size + 1) (.slice (some ad') S'.length sc') (expandR E x S ((fldsR x E).take (j + 1)))) := ⟨by rw [HST.out, HAD.out]; exact OwL.below (OwL.below HO'.out hb1) hb2⟩
              have HF2 := As.mk (Rd.below (Rd.below HF'.out hb1) hb2)
              have m0 := cell_below hb2 (cell_below hb1 d0)
              have m1 := cell_below hb2 (cell_below hb1 d1)
              go_roundw
              case rel => exact ⟨j + 1, by go_num, by omega, HO2, HF2, HB2, m0, m1, Nat.lt_of_lt_of_le ds (Nat.le_trans hb1.size hb2.size)⟩
              case measure => simp [intOf]; omega
          · have HOf : As (OwL wr (w.heap.size + 1) u5 (expandR E x S (fldsR x E))) := ⟨by have := hO.out; rwa [List.take_of_length_le (by omega)] at this⟩
            have hi1 : i + 1 ≤ (expandR E x S (fldsR x E)).length := Nat.lt_of_lt_of_le hlt (expandR_le E x _ S)
            have hi2 : i + 1 < 1000000 := by have := HRl.out; omega
            clear hO
            go_wp2
            go_roundg n
            case measure => omega
            case rel => exact ⟨i + 1, _, by go_num, hi1, HA, HOf, hB, hc0, hc1, hsz⟩
      · rw [if_neg hlt] at hA'
        have HRS : As (S = R) := ⟨by injection hA'⟩
        clear hA'
        obtain ⟨SA, sc, rfl⟩ := OwL.form hO.out
        have hil : ¬ (i : Int) < (S.length : Int) := by omega
        go_wp2
        go_ret
        exact ⟨_, rfl, by have := OwL.rd hO.out; rw [HRS.out] at this ⊢; exact this, hB.out⟩

def ledR (E : List Edge) (l : List Int) (word : List Int) : List Int := word.foldl (fun l f => nextR f l E) l
theorem nextR_nil (f : Int) (E : List Edge) : nextR f [] E = [] := by
  unfold nextR
  have : ∀ (E : List Edge) (b : List Int), E.foldl (fun out e => if e.2.1 = f ∧ has [] e.1 = true then ins e.2.2 out else out) b = b := by
    intro E
    induction E with
    | nil => intro b; rfl
    | cons e E ih => intro b; rw [List.foldl_cons, if_neg (by simp [has]), ih]
  exact this E []
theorem ledR_nil (E : List Edge) : ∀ word : List Int, ledR E [] word = []
  | [] => rfl
  | f :: word => by
    show ledR E (nextR f [] E) word = []
    rw [nextR_nil]; exact ledR_nil E word

set_option maxRecDepth 100000 in
set_option maxHeartbeats 1000000 in
theorem LedR_calls (T : List ByteArray) (E : List Edge) (o : Int) (word : List Int) (tv ev wv : Value) (ok ok' : Nat → Prop) (w : World) (hT : RdS w ok tv T) (hE : RdE w ok ev E) (hW : RdI w ok' wv word) (hl : E.length < 1000000) :
    Calls Tryz.prog 44 #[.agg #[tv, ev], .int .i64 o, wv] w fun e w' => ∃ v', e = .returned v' ∧ RdI w' (fun _ => True) v' (ledR E [o] word) ∧ Below w.heap.size w w' := by
  have HT := As.mk hT
  have HE := As.mk hE
  have HW := As.mk hW
  obtain ⟨TA, tc, rfl, _, _⟩ := Rd.form hT
  obtain ⟨EA, ec, rfl, _, _⟩ := Rd.form hE
  obtain ⟨WA, wc, rfl, _, _⟩ := Rd.form hW
  clear hT hE hW
  go_enter Tryz.func44, Tryz.ntmps44
  go_wp2
  go_loopw [7, 8] (fun o1 v wr => ∃ k : Nat, v = .int .i64 k ∧ k ≤ word.length ∧ As (RdI wr (fun _ => True) o1 (ledR E [o] (word.take k))) ∧ As (Below w.heap.size w wr) ∧ wr.cell? ⟨w.heap.size, 0, none⟩ = some (.slice TA T.length tc) ∧ wr.cell? ⟨w.heap.size, 1, none⟩ = some (.slice EA E.length ec)) (fun _ v _ => word.length - (intOf v).toNat)
  case atStart =>
    refine ⟨0, rfl, by omega, ⟨?_⟩, ⟨by go_grown⟩, ?_, ?_⟩
    · have h := Rd.any (rd_box (w.alloc (.cells #[.slice TA T.length tc, .slice EA E.length ec] 25)) (.int .i64 o) 3)
      rw [World.size_alloc] at h
      exact h
    · exact cell_below (w := w.alloc (.cells #[.slice TA T.length tc, .slice EA E.length ec] 25)) (by go_grown) (box2 w _ _).1
    · exact cell_below (w := w.alloc (.cells #[.slice TA T.length tc, .slice EA E.length ec] 25)) (by go_grown) (box2 w _ _).2
  case round =>
    obtain ⟨k, rfl, hk, hL, hB, hc0, hc1⟩ := hrel
    obtain ⟨LA, lc, rfl, _, hll⟩ := Rd.form hL.out
    by_cases hlt : k < word.length
    · obtain ⟨wad, rfl, e0⟩ := RdI.at (Rd.below HW.out hB.out) k hlt
      have HS : As (ledR E [o] (word.take (k + 1)) = nextR (word.getD k 0) (ledR E [o] (word.take k)) E) := ⟨foldl_step _ word k hlt 0 [o]⟩
      have HD : As (ledR E [o] word = ledR E (ledR E [o] (word.take k)) (word.drop k)) := ⟨by unfold ledR; rw [← List.foldl_append, List.take_append_drop]⟩
      generalize word.getD k 0 = f at *
      obtain ⟨l, hle⟩ : ∃ l, l = ledR E [o] (word.take k) := ⟨_, rfl⟩
      rw [← hle] at hL hll HS HD ⊢
      clear hle
      by_cases hl0 : l.length = 0
      · have h0 : ¬ 0 < (l.length : Int) := by omega
        have h0b : decide (0 < (l.length : Int)) = false := decide_eq_false h0
        have HL0 := As.mk (List.eq_nil_of_length_eq_zero hl0)
        clear hl0
        go_wp2
        go_ret
        have hfin : RdI wr (fun _ => True) (.slice LA l.length lc) (ledR E [o] word) := by
          rw [HD.out, HL0.out, ledR_nil]; have := hL.out; rw [HL0.out] at this; exact this
        exact ⟨_, rfl, hfin, hB.out⟩
      · have h0 : 0 < (l.length : Int) := by omega
        go_wp2
        go_still_tail 6, (by kernel_rfl)
        have hbd : Below wr.heap.size wr wr.drew := (Below.refl _ _).drew
        have HT' := As.mk (Rd.below HT.out ((hB.out).trans (hbd.mono (hB.out).size)))
        have HE' := As.mk (Rd.below HE.out ((hB.out).trans (hbd.mono (hB.out).size)))
        have HL' := As.mk (Rd.below hL.out hbd)
        have HB' := As.mk ((hB.out).trans (hbd.mono (hB.out).size))
        have d0 := cell_below hbd hc0
        have d1 := cell_below hbd hc1
        clear hbd hB hL hc0 hc1 e0
        change wpList _ _ _ _ _ wr.drew
        generalize wr.drew = wd at *
        go_wp2_with (go_at_call 39; refine (NextR_calls T E f l _ _ _ ok _ _ HT'.out HE'.out HL'.out hl).mono ?_; rintro e w1 ⟨v1, rfl, hr1, hb1⟩; have HN := As.mk (Rd.any hr1); obtain ⟨NA, nc, rfl, _, hnl⟩ := Rd.form hr1; clear hr1)
        have k0 := cell_below hb1 d0
        have k1 := cell_below hb1 d1
        go_roundw
        case rel => exact ⟨k + 1, by go_num, by omega, ⟨by rw [HS.out]; exact HN.out⟩, ⟨(HB'.out).trans (hb1.mono (HB'.out).size)⟩, k0, k1⟩
        case measure => simp [intOf]; omega
    · go_wp2
      go_ret
      have hfin : RdI wr (fun _ => True) (.slice LA (ledR E [o] (word.take k)).length lc) (ledR E [o] word) := by
        have := hL.out
        rw [List.take_of_length_le (by omega)] at this ⊢
        exact this
      exact ⟨_, rfl, hfin, hB.out⟩
end Go.Proofs.YtalnfhipggbdlaaGreatDoor
