/- Law 23: AutoSingle. -/
import Derived.Test.YtalnfhipggbdlaaGreatDoorW1
namespace Go.Proofs.YtalnfhipggbdlaaGreatDoor
open Go.RowKit
set_option linter.unusedVariables false
set_option linter.unusedSimpArgs false

theorem expand_all {P : List Int → Prop} (E : List Edge) (hP : ∀ f os, P (nextR f os E)) (x : List Int) : ∀ (fs : List Int) (S : List (List Int)), (∀ s ∈ S, P s) → ∀ s ∈ expandR E x S fs, P s
  | [], S, h => h
  | f :: fs, S, h => by
    show ∀ s ∈ expandR E x (addSt S (nextR f x E)) fs, P s
    refine expand_all E hP x fs _ (fun s hs => ?_)
    unfold addSt at hs
    split at hs
    · rcases List.mem_append.1 hs with hs | hs
      · exact h s hs
      · simp at hs; subst hs; exact hP f x
    · exact h s hs
theorem bfs_all {P : List Int → Prop} (E : List Edge) (hP : ∀ f os, P (nextR f os E)) : ∀ (n i : Nat) (S R : List (List Int)), bfsR E n i S = some R → (∀ s ∈ S, P s) → ∀ s ∈ R, P s
  | 0, i, S, R, h, _ => by simp [bfsR] at h
  | n + 1, i, S, R, h, hS => by
    rw [bfsR] at h
    split at h
    · exact bfs_all E hP n _ _ R h (expand_all E hP _ _ _ hS)
    · injection h with h; subst h; exact hS
theorem typesR_ne (T : List ByteArray) (s : List Int) (hs : s ≠ []) (h : ∀ x ∈ s, 0 ≤ x ∧ x < (T.length : Int)) : 0 < (typesR T s).length := by
  cases s with
  | nil => exact absurd rfl hs
  | cons x s =>
    have hx := h x (by simp)
    have hm : T.getD x.toNat ByteArray.empty ∈ typesR T (x :: s) := by
      rw [typesR_mem]
      simp only [tysL, List.flatMap_cons, if_pos hx]
      simp
    exact List.length_pos_of_mem hm
theorem light_spec {T : List ByteArray} {E : List Edge} (h : light T E = true) : T.length ≤ 8 ∧ E.length ≤ 60 ∧ E.all (okE T.length) = true := by
  simp only [light, Bool.and_eq_true, decide_eq_true_eq] at h
  exact ⟨by omega, by omega, h.1.2⟩
/-- All that is known of an object's automaton. -/
theorem ref_states {T : List ByteArray} {E : List Edge} (h : light T E = true) (o : Int) (ho : 0 ≤ o ∧ o < (T.length : Int)) : ∃ R, bfsR E 257 0 [[o]] = some R ∧ good R ∧ R.Nodup ∧ R.length ≤ 256 ∧ 0 < R.length ∧ R.getD 0 [] = [o] ∧ ∀ s ∈ R, ∀ x ∈ s, 0 ≤ x ∧ x < (T.length : Int) := by
  obtain ⟨h1, h2, h3⟩ := light_spec h
  obtain ⟨R, g1, g2, g3, g4⟩ := bfs_some E (ok_edges h3 h1) o (by omega)
  have g5 := bfs_all (P := fun s => ∀ x ∈ s, 0 ≤ x ∧ x < (T.length : Int)) E (fun f os x hx => by
    obtain ⟨e, he, _, _, hx⟩ := (nextR_mem f os E x).1 hx
    have := List.all_eq_true.1 h3 e he
    simp [okE] at this
    omega) 257 0 _ R g1 (fun s hs x hx => by simp at hs; subst hs; simp at hx; subst hx; exact ho)
  have g6 := bfsR_le E _ _ _ _ g1
  simp at g6
  refine ⟨R, g1, g2, g3, g4, g6, ?_, g5⟩
  have : ∀ (n i : Nat) (S R : List (List Int)), bfsR E n i S = some R → 0 < S.length → R.getD 0 [] = S.getD 0 [] := by
    intro n
    induction n with
    | zero => intro i S R h; simp [bfsR] at h
    | succ n ih =>
      intro i S R h hS
      rw [bfsR] at h
      split at h
      · rw [ih _ _ R h (Nat.lt_of_lt_of_le hS (expandR_le E _ _ _)), expandR_get E _ 0 _ _ hS]
      · injection h with h; subst h; rfl
  exact this 257 0 _ R g1 (by simp)
theorem single_run (T : List ByteArray) (R : List (List Int)) (h : singleR T R = true) (i : Int) : (typesR T (stA R i)).length ≤ 1 := by
  unfold stA
  split
  · rename_i hi
    obtain ⟨n, rfl, hn⟩ := inS_iff R i hi
    rw [Int.toNat_natCast]
    have := all_get R _ h n hn []
    simp at this
    simp [this]
  · simp [typesR]
theorem two_any (T : List ByteArray) (R : List (List Int)) (hg : good R) (hr : ∀ s ∈ R, ∀ x ∈ s, 0 ≤ x ∧ x < (T.length : Int)) (h : singleR T R = false) : R.any (fun s => decide (1 < (typesR T s).length)) = true := by
  unfold singleR at h
  rw [List.all_eq_false] at h
  obtain ⟨s, hs, h1⟩ := h
  rw [List.any_eq_true]
  refine ⟨s, hs, ?_⟩
  have := typesR_ne T s (hg s hs).1 (hr s hs)
  simp at h1 ⊢
  omega

set_option maxRecDepth 100000 in
set_option maxHeartbeats 2000000 in
theorem AutoSingle_calls (T : List ByteArray) (E : List Edge) (o : Int) (word : List Int) (tv ev wv : Value) (ok ok' : Nat → Prop) (w : World) (hT : RdS w ok tv T) (hE : RdE w ok ev E) (hW : RdI w ok' wv word) :
    Calls Tryz.prog 4 #[.agg #[tv, ev], .int .i64 o, wv] w fun e w' => e = .returned (.bool true) ∧ Below w.heap.size w w' := by
  have HT := As.mk hT
  have HE := As.mk hE
  have HW := As.mk hW
  obtain ⟨TA, tc, rfl, _, _⟩ := Rd.form hT
  obtain ⟨EA, ec, rfl, _, _⟩ := Rd.form hE
  obtain ⟨WA, wc, rfl, _, hwl⟩ := Rd.form hW
  clear hT hE hW
  have hb0 : Below w.heap.size w (w.alloc (.cells #[.slice TA T.length tc, .slice EA E.length ec] 25)) := below_alloc w _
  have HB0 := As.mk hb0
  obtain ⟨b0, b1⟩ := box2 w (.slice TA T.length tc) (.slice EA E.length ec)
  have HLIGHT := As.mk (fun (X : World) (hX : Below w.heap.size w X) => Light_calls T E _ _ ok X (HT.out.below hX) (HE.out.below hX))
  have h32 := eql32
  cases hl : light T E with
  | false =>
    rw [hl] at HLIGHT
    clear hb0 hl
    go_enter Tryz.func4, Tryz.ntmps4
    go_wp2_with (first
      | (go_at_call 16; refine (Awake23_calls _).mono ?_; rintro e w1 ⟨rfl, hb1⟩; replace HB0 := As.mk (below_seq HB0.out hb1); replace b0 := cell_below hb1 b0; replace b1 := cell_below hb1 b1; clear hb1)
      | (go_at_call 17; refine (HLIGHT.out _ HB0.out).mono ?_; rintro e w1 ⟨rfl, hb1⟩; replace HB0 := As.mk (below_seq HB0.out hb1); replace b0 := cell_below hb1 b0; replace b1 := cell_below hb1 b1; clear hb1))
    go_ret
    exact ⟨rfl, HB0.out⟩
  | true =>
    rw [hl] at HLIGHT
    obtain ⟨hT8, hE60, hok⟩ := light_spec hl
    have HLI := As.mk hl
    have HOK := As.mk hok
    clear hb0 hl hok
    by_cases hw30 : (30 : Int) < (word.length : Int)
    · have hw30b : decide ((30 : Int) < (word.length : Int)) = true := decide_eq_true hw30
      go_enter Tryz.func4, Tryz.ntmps4
      go_wp2_with (first
      | (go_at_call 16; refine (Awake23_calls _).mono ?_; rintro e w1 ⟨rfl, hb1⟩; replace HB0 := As.mk (below_seq HB0.out hb1); replace b0 := cell_below hb1 b0; replace b1 := cell_below hb1 b1; clear hb1)
      | (go_at_call 17; refine (HLIGHT.out _ HB0.out).mono ?_; rintro e w1 ⟨rfl, hb1⟩; replace HB0 := As.mk (below_seq HB0.out hb1); replace b0 := cell_below hb1 b0; replace b1 := cell_below hb1 b1; clear hb1))
      go_ret
      exact ⟨rfl, HB0.out⟩
    · have hw30b : decide ((30 : Int) < (word.length : Int)) = false := decide_eq_false hw30
      by_cases ho0 : o < 0
      · have ho0b : decide (o < 0) = true := decide_eq_true ho0
        go_enter Tryz.func4, Tryz.ntmps4
        go_wp2_with (first
      | (go_at_call 16; refine (Awake23_calls _).mono ?_; rintro e w1 ⟨rfl, hb1⟩; replace HB0 := As.mk (below_seq HB0.out hb1); replace b0 := cell_below hb1 b0; replace b1 := cell_below hb1 b1; clear hb1)
      | (go_at_call 17; refine (HLIGHT.out _ HB0.out).mono ?_; rintro e w1 ⟨rfl, hb1⟩; replace HB0 := As.mk (below_seq HB0.out hb1); replace b0 := cell_below hb1 b0; replace b1 := cell_below hb1 b1; clear hb1))
        go_ret
        exact ⟨rfl, HB0.out⟩
      · have ho0b : decide (o < 0) = false := decide_eq_false ho0
        by_cases ho1 : (T.length : Int) ≤ o
        · have ho1b : decide ((T.length : Int) ≤ o) = true := decide_eq_true ho1
          go_enter Tryz.func4, Tryz.ntmps4
          go_wp2_with (first
      | (go_at_call 16; refine (Awake23_calls _).mono ?_; rintro e w1 ⟨rfl, hb1⟩; replace HB0 := As.mk (below_seq HB0.out hb1); replace b0 := cell_below hb1 b0; replace b1 := cell_below hb1 b1; clear hb1)
      | (go_at_call 17; refine (HLIGHT.out _ HB0.out).mono ?_; rintro e w1 ⟨rfl, hb1⟩; replace HB0 := As.mk (below_seq HB0.out hb1); replace b0 := cell_below hb1 b0; replace b1 := cell_below hb1 b1; clear hb1))
          go_ret
          exact ⟨rfl, HB0.out⟩
        · have ho1b : decide ((T.length : Int) ≤ o) = false := decide_eq_false ho1
          obtain ⟨R, hR, hgd, hnd, hRl, hR0, hR1, hRin⟩ := ref_states HLI.out o ⟨by omega, by omega⟩
          have HR := As.mk hR
          have HGD := As.mk hgd
          have HRIN := As.mk hRin
          have HF := As.mk (⟨by omega, by omega, by omega, by omega, ⟨by omega, by omega⟩⟩ : E.length < 1000000 ∧ E.length < 1000 ∧ R.length < 1000 ∧ (R.length : Int) ≤ 1000 ∧ (0 ≤ o ∧ o < (T.length : Int)))
          have HRL : As (R.length < 1000000) := ⟨by omega⟩
          clear hR hgd hnd hRin
          cases hsg : singleR T R with
          | true =>
            have HSG := As.mk hsg
            clear hsg
            go_enter Tryz.func4, Tryz.ntmps4
            go_wp2_with (first
              | (go_at_call 16; refine (Awake23_calls _).mono ?_; rintro e w1 ⟨rfl, hb1⟩; replace HB0 := As.mk (below_seq HB0.out hb1); replace b0 := cell_below hb1 b0; replace b1 := cell_below hb1 b1; clear hb1)
              | (go_at_call 17; refine (HLIGHT.out _ HB0.out).mono ?_; rintro e w1 ⟨rfl, hb1⟩; replace HB0 := As.mk (below_seq HB0.out hb1); replace b0 := cell_below hb1 b0; replace b1 := cell_below hb1 b1; clear hb1)
              | (go_at_call 18; refine (New_calls T E _ _ ok ok _ (HT.out.below HB0.out) (HE.out.below HB0.out) HOK.out hT8 HF.out.1).mono ?_; unfold ptr; rintro e w2 ⟨gb, rfl, hg, hb1⟩; have HG := As.mk hg; replace HB0 := As.mk (below_seq HB0.out hb1); clear hb1 hg b0 b1)
              | (go_at_call 19; refine (BuildAll_calls T E o 1000 gb _ R HG.out HF.out.2.2.2.2 hT8 HOK.out HF.out.2.1 HR.out HF.out.2.2.1 HF.out.2.2.2.1).mono ?_; rintro e w3 ⟨ab, K, rfl, ha, hk, hgd2, hb1⟩; have HA := As.mk ha; have HKF := As.mk hk; replace HB0 := As.mk (below_seq HB0.out hb1); clear ha hk hgd2 hb1)
              | (go_at_call 22; refine (SingleA_calls ab gb T E R K _ HA.out HGD.out HRL.out).mono ?_; rw [HSG.out]; rintro e w4 ⟨rfl, hb1⟩; replace HA := As.mk (HA.out.below hb1); replace HB0 := As.mk (below_seq HB0.out hb1); clear hb1)
              | (go_at_call 33; refine (RunA_calls ab gb T E R K word _ _ _ HA.out HGD.out (HW.out.below HB0.out)).mono ?_; rintro e w5 ⟨v5, rfl, ho5, hb1⟩; obtain ⟨A5, c5, rfl⟩ := own_slice ho5; replace HB0 := As.mk (below_seq HB0.out hb1); clear hb1 ho5))
            go_ret
            exact ⟨ret_bool (decide_eq_true (by have := single_run T R HSG.out (runK K word); omega)), HB0.out⟩
          | false =>
            have HSG := As.mk hsg
            have HTWO := As.mk (two_any T R HGD.out HRIN.out hsg)
            clear hsg
            go_enter Tryz.func4, Tryz.ntmps4
            go_wp2_with (first
              | (go_at_call 16; refine (Awake23_calls _).mono ?_; rintro e w1 ⟨rfl, hb1⟩; replace HB0 := As.mk (below_seq HB0.out hb1); replace b0 := cell_below hb1 b0; replace b1 := cell_below hb1 b1; clear hb1)
              | (go_at_call 17; refine (HLIGHT.out _ HB0.out).mono ?_; rintro e w1 ⟨rfl, hb1⟩; replace HB0 := As.mk (below_seq HB0.out hb1); replace b0 := cell_below hb1 b0; replace b1 := cell_below hb1 b1; clear hb1)
              | (go_at_call 18; refine (New_calls T E _ _ ok ok _ (HT.out.below HB0.out) (HE.out.below HB0.out) HOK.out hT8 HF.out.1).mono ?_; unfold ptr; rintro e w2 ⟨gb, rfl, hg, hb1⟩; have HG := As.mk hg; replace HB0 := As.mk (below_seq HB0.out hb1); clear hb1 hg b0 b1)
              | (go_at_call 19; refine (BuildAll_calls T E o 1000 gb _ R HG.out HF.out.2.2.2.2 hT8 HOK.out HF.out.2.1 HR.out HF.out.2.2.1 HF.out.2.2.2.1).mono ?_; rintro e w3 ⟨ab, K, rfl, ha, hk, hgd2, hb1⟩; have HA := As.mk ha; have HKF := As.mk hk; replace HB0 := As.mk (below_seq HB0.out hb1); clear ha hk hgd2 hb1)
              | (go_at_call 22; refine (SingleA_calls ab gb T E R K _ HA.out HGD.out HRL.out).mono ?_; rw [HSG.out]; rintro e w4 ⟨rfl, hb1⟩; replace HA := As.mk (HA.out.below hb1); replace HB0 := As.mk (below_seq HB0.out hb1); clear hb1))
            clear HLIGHT HT HE HW
            go_loopw [11, 12] (fun u v wr => ∃ k : Nat, v = .int .i64 k ∧ k ≤ R.length ∧ u = .bool ((R.take k).any (fun s => decide (1 < (typesR T s).length))) ∧ As (AR wr ab gb T E R K) ∧ As (Below w.heap.size w wr)) (fun _ v _ => R.length - (intOf v).toNat)
            case atStart => exact ⟨0, rfl, by omega, rfl, HA, HB0⟩
            case round =>
              clear HA HB0
              obtain ⟨k, rfl, hk, rfl, HA, HB0⟩ := hrel
              by_cases hlt : k < R.length
              · have hst : stA R (k : Int) = R.getD k [] := by simp [stA, inS, hlt]
                have hlti : (k : Int) < (R.length : Int) := by omega
                have HANY : As ((R.take (k + 1)).any (fun s => decide (1 < (typesR T s).length)) = ((R.take k).any (fun s => decide (1 < (typesR T s).length)) || decide (1 < (typesR T (R.getD k [])).length))) := ⟨by
                  rw [List.take_succ_eq_append_getElem hlt, List.any_append, getD_at R k [] hlt]; simp⟩
                have HTY := As.mk (fun (X : World) (hX : AR X ab gb T E R K) => TypesA_calls ab gb T E R K k X hX HGD.out)
                rw [hst] at HTY
                generalize typesR T (R.getD k []) = ts at *
                have htd : decide ((1 : Int) < (ts.length : Int)) = decide (1 < ts.length) := decide_eq_decide.2 (by omega)
                cases ha : (R.take k).any (fun s => decide (1 < (typesR T s).length)) with
                | true =>
                  rw [ha] at HANY
                  go_wp2_with (first
                    | (go_at_call 21; refine (LenA_calls ab gb T E R K _ HA.out).mono ?_; rintro e w4 ⟨rfl, hb1⟩; replace HA := As.mk (HA.out.below hb1); replace HB0 := As.mk (below_seq HB0.out hb1); clear hb1)
                    | (go_at_call 25; refine (HTY.out _ HA.out).mono ?_; rintro e w4 ⟨v5, rfl, ho5, hb1⟩; obtain ⟨A5, c5, rfl⟩ := own_slice ho5; replace HA := As.mk (HA.out.below hb1); replace HB0 := As.mk (below_seq HB0.out hb1); clear hb1 ho5))
                  go_roundw
                  case rel => exact ⟨k + 1, by go_num, by omega, by rw [HANY.out]; rfl, HA, HB0⟩
                  case measure => simp [intOf]; omega
                | false =>
                  rw [ha] at HANY
                  go_wp2_with (first
                    | (go_at_call 21; refine (LenA_calls ab gb T E R K _ HA.out).mono ?_; rintro e w4 ⟨rfl, hb1⟩; replace HA := As.mk (HA.out.below hb1); replace HB0 := As.mk (below_seq HB0.out hb1); clear hb1)
                    | (go_at_call 25; refine (HTY.out _ HA.out).mono ?_; rintro e w4 ⟨v5, rfl, ho5, hb1⟩; obtain ⟨A5, c5, rfl⟩ := own_slice ho5; replace HA := As.mk (HA.out.below hb1); replace HB0 := As.mk (below_seq HB0.out hb1); clear hb1 ho5))
                  go_roundw
                  case rel => exact ⟨k + 1, by go_num, by omega, by rw [HANY.out, ← htd]; rfl, HA, HB0⟩
                  case measure => simp [intOf]; omega
              · have hlti : ¬ (k : Int) < (R.length : Int) := by omega
                rw [List.take_of_length_le (by omega), HTWO.out]
                go_wp2_with (go_at_call 21; refine (LenA_calls ab gb T E R K _ HA.out).mono ?_; rintro e w4 ⟨rfl, hb1⟩; replace HB0 := As.mk (below_seq HB0.out hb1); clear hb1)
                go_ret
                exact ⟨rfl, HB0.out⟩
end Go.Proofs.YtalnfhipggbdlaaGreatDoor
