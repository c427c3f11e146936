/- Law 23: AutoStates. -/
import Derived.Test.YtalnfhipggbdlaaGreatDoorW2
namespace Go.Proofs.YtalnfhipggbdlaaGreatDoor
open Go.RowKit
set_option linter.unusedVariables false
set_option linter.unusedSimpArgs false

theorem RdL.form {w : World} {ok : Nat → Prop} {v : Value} {S : List (List Int)} (h : RdL w ok v S) : ∃ A c, v = .slice A S.length c := by
  obtain ⟨vs, _, h2, _⟩ := h
  obtain ⟨A, c, rfl, _, _⟩ := Rd.form h2
  exact ⟨A, c, rfl⟩

theorem same_true (l : List Int) (X : World) (v u : Value) (ok1 ok2 : Nat → Prop) (h1 : RdI X ok1 v l) (h2 : RdI X ok2 u l) : Calls Tryz.prog 29 #[v, u] X fun e w' => e = .returned (.bool true) ∧ Below X.heap.size X w' := by
  have := Same_calls l l v u ok1 ok2 X h1 h2
  rwa [decide_eq_true (Eq.refl l)] at this
theorem texts_true (l : List ByteArray) (X : World) (v u : Value) (ok1 ok2 : Nat → Prop) (h1 : RdS X ok1 v l) (h2 : RdS X ok2 u l) : Calls Tryz.prog 30 #[v, u] X fun e w' => e = .returned (.bool true) ∧ Below X.heap.size X w' := by
  have := Texts_calls l l v u ok1 ok2 X h1 h2
  rwa [decide_eq_true (Eq.refl l)] at this

set_option maxRecDepth 100000 in
set_option maxHeartbeats 4000000 in
theorem AutoStates_calls (T : List ByteArray) (E : List Edge) (o most : Int) (tv ev : Value) (ok : Nat → Prop) (w : World) (hT : RdS w ok tv T) (hE : RdE w ok ev E) :
    Calls Tryz.prog 3 #[.agg #[tv, ev], .int .i64 o, .int .i64 most] w fun e w' => e = .returned (.bool true) ∧ Below w.heap.size w w' := by
  have HT := As.mk hT
  have HE := As.mk hE
  obtain ⟨TA, tc, rfl, _, _⟩ := Rd.form hT
  obtain ⟨EA, ec, rfl, _, _⟩ := Rd.form hE
  clear hT hE
  have HB0 := As.mk (below_alloc w (.cells #[.slice TA T.length tc, .slice EA E.length ec] 25))
  obtain ⟨b0, b1⟩ := box2 w (.slice TA T.length tc) (.slice EA E.length ec)
  have HLIGHT := As.mk (fun (X : World) (hX : Below w.heap.size w X) => Light_calls T E _ _ ok X (HT.out.below hX) (HE.out.below hX))
  have h32 := eql32
  have h32n := eql32n
  have h28 := eql28
  have h28n := neq28
  cases hl : light T E with
  | false =>
    rw [hl] at HLIGHT
    clear hl
    go_enter Tryz.func3, Tryz.ntmps3
    go_wp2_with (first
      | (go_at_call 16; refine (Awake23_calls _).mono ?_; rintro e w1 ⟨rfl, hb1⟩; replace HB0 := As.mk (below_seq HB0.out hb1); replace b0 := cell_below hb1 b0; replace b1 := cell_below hb1 b1; clear hb1)
      | (go_at_call 17; refine (HLIGHT.out _ HB0.out).mono ?_; rintro e w1 ⟨rfl, hb1⟩; replace HB0 := As.mk (below_seq HB0.out hb1); replace b0 := cell_below hb1 b0; replace b1 := cell_below hb1 b1; clear hb1))
    go_ret
    exact ⟨rfl, HB0.out⟩
  | true =>
    rw [hl] at HLIGHT
    obtain ⟨hT8, hE60, hok⟩ := light_spec hl
    have HLI := As.mk hl
    have HOK := As.mk hok
    have HE1 : As (E.length < 1000000) := ⟨by omega⟩
    have HE2 : As (E.length < 1000) := ⟨by omega⟩
    clear hl hok
    by_cases hout : o < 0 ∨ (T.length : Int) ≤ o
    · have HOUT := As.mk hout
      have hob : decide (o < 0) = true ∨ (decide (o < 0) = false ∧ decide ((T.length : Int) ≤ o) = true) := by
        by_cases h0 : o < 0
        · exact Or.inl (decide_eq_true h0)
        · exact Or.inr ⟨decide_eq_false h0, decide_eq_true (hout.resolve_left h0)⟩
      clear hout
      rcases hob with hob | ⟨hob, hob1⟩
      all_goals
        go_enter Tryz.func3, Tryz.ntmps3
        go_wp2_with (first
          | (go_at_call 16; refine (Awake23_calls _).mono ?_; rintro e w1 ⟨rfl, hb1⟩; replace HB0 := As.mk (below_seq HB0.out hb1); replace b0 := cell_below hb1 b0; replace b1 := cell_below hb1 b1; clear hb1)
          | (go_at_call 17; refine (HLIGHT.out _ HB0.out).mono ?_; rintro e w1 ⟨rfl, hb1⟩; replace HB0 := As.mk (below_seq HB0.out hb1); replace b0 := cell_below hb1 b0; replace b1 := cell_below hb1 b1; clear hb1)
          | (go_at_call 18; refine (New_calls T E _ _ ok ok _ (HT.out.below HB0.out) (HE.out.below HB0.out) HOK.out hT8 HE1.out).mono ?_; unfold ptr; rintro e w2 ⟨gb, rfl, hg, hb1⟩; have HG := As.mk hg; replace HB0 := As.mk (below_seq HB0.out hb1); replace b0 := cell_below hb1 b0; replace b1 := cell_below hb1 b1; clear hb1 hg)
          | (go_at_call 19; refine (BuildOut_calls T E o most gb _ HG.out HOUT.out).mono ?_; rintro e w3 ⟨rfl, hb1⟩; replace HB0 := As.mk (below_seq HB0.out hb1); replace b0 := cell_below hb1 b0; replace b1 := cell_below hb1 b1; clear hb1))
        go_ret
        exact ⟨rfl, HB0.out⟩
    · have ho0b : decide (o < 0) = false := decide_eq_false (fun h => hout (Or.inl h))
      have ho1b : decide ((T.length : Int) ≤ o) = false := decide_eq_false (fun h => hout (Or.inr h))
      have HO : As (0 ≤ o ∧ o < (T.length : Int)) := ⟨by omega⟩
      obtain ⟨R, hR, hgd, hnd, hRl, hR0, hR1, hRin⟩ := ref_states HLI.out o HO.out
      have HR := As.mk hR
      have HGD := As.mk hgd
      have HR3 : As (R.length < 1000) := ⟨by omega⟩
      have HRL : As (R.length < 1000000) := ⟨by omega⟩
      have HSL : As (∀ i, i < R.length → (R.getD i []).length < 1000000) := ⟨fun i hi => by have := (good_at hgd i hi).2.2.2; omega⟩
      clear hR hgd hnd hRin hout
      have HREF := As.mk (fun (X : World) (hX : Below w.heap.size w X) => StatesR_calls T E o _ _ ok X (HT.out.below hX) (HE.out.below hX) HE1.out 257 R HR.out HRL.out)
      by_cases hm : most < (R.length : Int)
      · have HBC := As.mk (fun (X : World) (gb : Nat) (hX : GR X gb T E) => Build_calls T E o most gb X hX HO.out hT8 (ok_edges HOK.out hT8) HE2.out 257 R HR.out HR3.out)
        have hbt : ∀ (X : World) (gb : Nat) (v : Value), built X gb T E R most v → v = .tuple #[.pointer none, .int .i64 12] := fun X gb v h => by rw [built, if_pos hm] at h; exact h
        have HBT := As.mk hbt
        clear hbt
        go_enter Tryz.func3, Tryz.ntmps3
        go_wp2_with (first
          | (go_at_call 16; refine (Awake23_calls _).mono ?_; rintro e w1 ⟨rfl, hb1⟩; replace HB0 := As.mk (below_seq HB0.out hb1); replace b0 := cell_below hb1 b0; replace b1 := cell_below hb1 b1; clear hb1)
          | (go_at_call 17; refine (HLIGHT.out _ HB0.out).mono ?_; rintro e w1 ⟨rfl, hb1⟩; replace HB0 := As.mk (below_seq HB0.out hb1); replace b0 := cell_below hb1 b0; replace b1 := cell_below hb1 b1; clear hb1)
          | (go_at_call 18; refine (New_calls T E _ _ ok ok _ (HT.out.below HB0.out) (HE.out.below HB0.out) HOK.out hT8 HE1.out).mono ?_; unfold ptr; rintro e w2 ⟨gb, rfl, hg, hb1⟩; have HG := As.mk hg; replace HB0 := As.mk (below_seq HB0.out hb1); replace b0 := cell_below hb1 b0; replace b1 := cell_below hb1 b1; clear hb1 hg)
          | (go_at_call 19; refine (HBC.out _ gb HG.out).mono ?_; rintro e w3 ⟨v3, rfl, hbu, hb1⟩; obtain rfl := HBT.out _ _ _ hbu; replace HB0 := As.mk (below_seq HB0.out hb1); replace b0 := cell_below hb1 b0; replace b1 := cell_below hb1 b1; clear hb1 hbu)
          | (go_at_call 20; refine (HREF.out _ HB0.out).mono ?_; rintro e w4 ⟨v4, rfl, hL, hb1⟩; obtain ⟨LA, lc, rfl⟩ := RdL.form hL; replace HB0 := As.mk (below_seq HB0.out hb1); clear hb1 hL b0 b1))
        go_ret
        exact ⟨rfl, HB0.out⟩
      · have HMOST : As ((R.length : Int) ≤ most) := ⟨by omega⟩
        have hsne : (singleR T R != singleR T R) = false := by simp
        have hlne : ((R.length : Int) != (R.length : Int)) = false := by simp
        go_enter Tryz.func3, Tryz.ntmps3
        go_wp2_with (first
          | (go_at_call 16; refine (Awake23_calls _).mono ?_; rintro e w1 ⟨rfl, hb1⟩; replace HB0 := As.mk (below_seq HB0.out hb1); replace b0 := cell_below hb1 b0; replace b1 := cell_below hb1 b1; clear hb1)
          | (go_at_call 17; refine (HLIGHT.out _ HB0.out).mono ?_; rintro e w1 ⟨rfl, hb1⟩; replace HB0 := As.mk (below_seq HB0.out hb1); replace b0 := cell_below hb1 b0; replace b1 := cell_below hb1 b1; clear hb1)
          | (go_at_call 18; refine (New_calls T E _ _ ok ok _ (HT.out.below HB0.out) (HE.out.below HB0.out) HOK.out hT8 HE1.out).mono ?_; unfold ptr; rintro e w2 ⟨gb, rfl, hg, hb1⟩; have HG := As.mk hg; replace HB0 := As.mk (below_seq HB0.out hb1); replace b0 := cell_below hb1 b0; replace b1 := cell_below hb1 b1; clear hb1 hg)
          | (go_at_call 19; refine (BuildAll_calls T E o most gb _ R HG.out HO.out hT8 HOK.out HE2.out HR.out HR3.out HMOST.out).mono ?_; rintro e w3 ⟨ab, K, rfl, ha, hk, hgd2, hb1⟩; have HA := As.mk ha; have HKF := As.mk hk; replace HB0 := As.mk (below_seq HB0.out hb1); replace b0 := cell_below hb1 b0; replace b1 := cell_below hb1 b1; clear ha hk hgd2 hb1)
          | (go_at_call 20; refine (HREF.out _ HB0.out).mono ?_; rintro e w4 ⟨v4, rfl, hL, hb1⟩; obtain ⟨LA, lc, rfl⟩ := RdL.form hL; have HL := As.mk hL; replace HA := As.mk (HA.out.below hb1); replace HB0 := As.mk (below_seq HB0.out hb1); replace b0 := cell_below hb1 b0; replace b1 := cell_below hb1 b1; clear hb1 hL))
        replace HA := As.mk (HA.out.below (w1 := w4.drew) (Below.refl _ _).drew)
        replace HL := As.mk (HL.out.below (w1 := w4.drew) (Below.refl _ _).drew)
        replace HB0 := As.mk (HB0.out.drew)
        clear HLIGHT HREF h28 h28n h32n HMOST hm
        go_region_held3 (fun w' => w'.cell? ⟨w.heap.size, 0, none⟩ = some (.slice TA T.length tc) ∧ w'.cell? ⟨w.heap.size, 1, none⟩ = some (.slice EA E.length ec)) (first | go_keep | assumption | exact ⟨b0, b1⟩)
          ((first
            | (go_at_call 21; refine (LenA_calls ab gb T E R K _ HA.out).mono ?_; rintro e w5 ⟨rfl, hb1⟩; replace HA := As.mk (HA.out.below hb1); replace HL := As.mk (HL.out.below hb1); replace HB0 := As.mk (below_seq HB0.out hb1); replace b0 := cell_below (w := w4.drew) hb1 b0; replace b1 := cell_below (w := w4.drew) hb1 b1; clear hb1)
            | (go_at_call 22; refine (SingleA_calls ab gb T E R K _ HA.out HGD.out HRL.out).mono ?_; rintro e w6 ⟨rfl, hb1⟩; replace HA := As.mk (HA.out.below hb1); replace HL := As.mk (HL.out.below hb1); replace HB0 := As.mk (below_seq HB0.out hb1); replace b0 := cell_below hb1 b0; replace b1 := cell_below hb1 b1; clear hb1)
            | (go_at_call 23; refine (SingleR_calls T E R _ _ _ ok _ _ (HT.out.below HB0.out) (HE.out.below HB0.out) HL.out HSL.out).mono ?_; rintro e w7 ⟨rfl, hb1⟩; replace HA := As.mk (HA.out.below hb1); replace HL := As.mk (HL.out.below hb1); replace HB0 := As.mk (below_seq HB0.out hb1); replace b0 := cell_below hb1 b0; replace b1 := cell_below hb1 b1; clear hb1)))
        have hsum : (R.length : Int) + 1 < 1000000 := by omega
        clear hsne hlne ho0b ho1b
        go_wp2
        go_loopw [12] (fun v wr => ∃ i : Int, v = .int .i64 i ∧ -1 ≤ i ∧ i ≤ (R.length : Int) + 1 ∧ As (AR wr ab gb T E R K) ∧ As (RdL wr (fun _ => True) (.slice LA R.length lc) R) ∧ As (Below w.heap.size w wr) ∧ wr.cell? ⟨w.heap.size, 0, none⟩ = some (.slice TA T.length tc) ∧ wr.cell? ⟨w.heap.size, 1, none⟩ = some (.slice EA E.length ec)) (fun v _ => ((R.length : Int) + 1 - intOf v).toNat)
        case atStart => exact ⟨-1, rfl, by omega, by omega, HA, HL, HB0, b0, b1⟩
        case round =>
          clear HA HL HB0 b0 b1
          obtain ⟨i, rfl, hi0, hi1, HA, HL, HB0, b0, b1⟩ := hrel
          by_cases hle : i ≤ (R.length : Int)
          · have HSTEP := As.mk (fun (X : World) (f : Int) (hX : AR X ab gb T E R K) => StepA_calls ab gb T E R K i f X hX)
            have HSTA := As.mk (fun (X : World) (hX : AR X ab gb T E R K) => StateA_calls ab gb T E R K i X hX HGD.out)
            have HTYA := As.mk (fun (X : World) (hX : AR X ab gb T E R K) => TypesA_calls ab gb T E R K i X hX HGD.out)
            have HFLA := As.mk (fun (X : World) (hX : AR X ab gb T E R K) => FieldsA_calls ab gb T E R K i X hX HGD.out HE2.out)
            by_cases hedge : i < 0 ∨ i = (R.length : Int)
            · have hin : inS R i = false := by
                unfold inS
                rcases hedge with h | h
                · rw [decide_eq_false (by omega : ¬ 0 ≤ i)]; rfl
                · rw [decide_eq_false (by omega : ¬ i < (R.length : Int))]; simp
              have hs0 : stA R i = [] := by simp [stA, hin]
              have hf0 : fldA E R i = [] := by simp [fldA, hin]
              have hk0 : stepK K i 0 = -1 := by rw [stepK_eq HKF.out HGD.out]; unfold stepR; rw [if_pos (by omega)]
              have ht0 : typesR T [] = [] := rfl
              rw [hs0] at HSTA HTYA
              rw [ht0] at HTYA
              rw [hf0] at HFLA
              have hbe : decide (i < 0) = true ∨ (decide (i < 0) = false ∧ (i == (R.length : Int)) = true) := by
                by_cases h : i < 0
                · exact Or.inl (decide_eq_true h)
                · exact Or.inr ⟨decide_eq_false h, beq_iff_eq.2 (hedge.resolve_left h)⟩
              have HK0 := As.mk hk0
              have HEDGE := As.mk hedge
              clear hin hs0 hf0 hk0 ht0 hedge
              rcases hbe with hbe | ⟨hbe, hbe1⟩
              all_goals
                go_wp2_with (first
                  | (go_at_call 24; refine (HSTA.out _ HA.out).mono ?_; rintro e w5 ⟨v5, rfl, ho5, hb1⟩; obtain ⟨A5, c5, rfl⟩ := own_slice ho5; clear ho5; replace HA := As.mk (HA.out.below hb1); replace HL := As.mk (HL.out.below hb1); replace HB0 := As.mk (below_seq HB0.out hb1); replace b0 := cell_below hb1 b0; replace b1 := cell_below hb1 b1; clear hb1)
                  | (go_at_call 25; refine (HTYA.out _ HA.out).mono ?_; rintro e w5 ⟨v5, rfl, ho5, hb1⟩; obtain ⟨A5, c5, rfl⟩ := own_slice ho5; clear ho5; replace HA := As.mk (HA.out.below hb1); replace HL := As.mk (HL.out.below hb1); replace HB0 := As.mk (below_seq HB0.out hb1); replace b0 := cell_below hb1 b0; replace b1 := cell_below hb1 b1; clear hb1)
                  | (go_at_call 26; refine (HFLA.out _ HA.out).mono ?_; rintro e w5 ⟨v5, rfl, ho5, hb1⟩; obtain ⟨A5, c5, rfl⟩ := own_slice ho5; clear ho5; replace HA := As.mk (HA.out.below hb1); replace HL := As.mk (HL.out.below hb1); replace HB0 := As.mk (below_seq HB0.out hb1); replace b0 := cell_below hb1 b0; replace b1 := cell_below hb1 b1; clear hb1)
                  | (go_at_call 27; refine (HSTEP.out _ 0 HA.out).mono ?_; rw [HK0.out]; rintro e w5 ⟨rfl, hb1⟩; replace HA := As.mk (HA.out.below hb1); replace HL := As.mk (HL.out.below hb1); replace HB0 := As.mk (below_seq HB0.out hb1); replace b0 := cell_below hb1 b0; replace b1 := cell_below hb1 b1; clear hb1))
                go_roundw
                case rel => exact ⟨i + 1, by go_num, by omega, by omega, HA, HL, HB0, b0, b1⟩
                case measure => simp [intOf]; omega
            · obtain ⟨n, rfl⟩ : ∃ n : Nat, i = n := ⟨i.toNat, by omega⟩
              have hn : n < R.length := by omega
              have hin : inS R (n : Int) = true := by simp [inS, hn]
              have hs0 : stA R (n : Int) = R.getD n [] := by simp [stA, hin]
              have hf0 : fldA E R (n : Int) = fldsR (R.getD n []) E := by simp [fldA, hin]
              rw [hs0] at HSTA HTYA
              rw [hf0] at HFLA
              have HK := As.mk (fun f => stepK_eq HKF.out HGD.out (n : Int) f)
              obtain ⟨lad, B, d, rfl, e2, hr⟩ := RdL.at HL.out n hn
              have HGX := As.mk (good_at HGD.out n hn)
              obtain ⟨x, hx⟩ : ∃ x, x = R.getD n [] := ⟨_, rfl⟩
              rw [← hx] at HSTA HTYA HFLA hr e2 HGX
              have HX := As.mk hr
              have HXL : As (x.length < 1000000) := ⟨by have := HGX.out.2.2.2; omega⟩
              have hfl : (fldsR x E).length ≤ 1000 := by have := fldsR_len x E E.length (Nat.le_refl _); rw [List.take_length] at this; omega
              obtain ⟨fs, hfs⟩ : ∃ fs, fs = fldsR x E := ⟨_, rfl⟩
              rw [← hfs] at HFLA hfl
              have HFS := As.mk hfs
              obtain ⟨ts, hts⟩ : ∃ ts, ts = typesR T x := ⟨_, rfl⟩
              rw [← hts] at HTYA
              have HTS := As.mk hts
              have hib : decide ((n : Int) < 0) = false := decide_eq_false (by omega)
              have hib1 : ((n : Int) == (R.length : Int)) = false := beq_eq_false_iff_ne.2 (by omega)
              have hni : (n : Int) < (R.length : Int) := by omega
              have hn0 : (0 : Int) ≤ (n : Int) := Int.natCast_nonneg _
              clear hin hs0 hf0 hr hx hfs hts hedge
              go_wp2
              go_still_tail 5, (by kernel_rfl)
              change wpList _ _ _ _ _ wr.drew
              have hbd : Below wr.heap.size wr wr.drew := (Below.refl _ _).drew
              replace HA := As.mk (HA.out.below hbd)
              replace HL := As.mk (HL.out.below hbd)
              replace HX := As.mk (HX.out.below hbd)
              replace HB0 := As.mk (below_seq HB0.out hbd)
              replace b0 : wr.drew.cell? ⟨w.heap.size, 0, none⟩ = _ := b0
              replace b1 : wr.drew.cell? ⟨w.heap.size, 1, none⟩ = _ := b1
              replace e2 : wr.drew.cell? (lad.add n) = _ := e2
              clear hbd
              generalize wr.drew = wd at *
              go_wp2_with (go_at_call 28; refine (FieldsR_calls T E x _ _ _ ok _ _ (HT.out.below HB0.out) (HE.out.below HB0.out) HX.out HE1.out).mono ?_; rw [← HFS.out]; rintro e w5 ⟨v5, rfl, hf5, hb1⟩; obtain ⟨FA, fc, rfl, _, _⟩ := Rd.form hf5; have HF := As.mk hf5; replace HA := As.mk (HA.out.below hb1); replace HL := As.mk (HL.out.below hb1); replace HX := As.mk (HX.out.below hb1); replace HB0 := As.mk (below_seq HB0.out hb1); replace b0 := cell_below hb1 b0; replace b1 := cell_below hb1 b1; replace e2 := cell_below hb1 e2; clear hf5 hb1)
              have e0 : w5.drew.cell? ⟨w.heap.size, 0, none⟩ = some (.slice TA T.length tc) := b0
              have e1 : w5.drew.cell? ⟨w.heap.size, 1, none⟩ = some (.slice EA E.length ec) := b1
              have c2 := e2
              replace e2 : w5.drew.cell? (lad.add n) = _ := e2
              have hbd : Below w5.heap.size w5 w5.drew := (Below.refl _ _).drew
              replace HA := As.mk (HA.out.below hbd)
              replace HL := As.mk (HL.out.below hbd)
              replace HX := As.mk (HX.out.below hbd)
              replace HF := As.mk (HF.out.below hbd)
              replace HB0 := As.mk (below_seq HB0.out hbd)
              have hs77 : (stepR E R (n : Int) 77 != stepR E R (n : Int) 77) = false := by simp
              clear hbd
              go_region_held3 (fun w' => w'.cell? ⟨w.heap.size, 0, none⟩ = some (.slice TA T.length tc) ∧ w'.cell? ⟨w.heap.size, 1, none⟩ = some (.slice EA E.length ec) ∧ w'.cell? (lad.add n) = some (.slice B x.length d)) (first | go_keep | assumption | exact ⟨e0, e1, e2⟩)
                ((first
                  | (go_at_call 24; refine (HSTA.out _ HA.out).mono ?_; rintro e w6 ⟨v6, rfl, ho6, hb1⟩; have HY := As.mk (own_rd ho6); clear ho6; replace HA := As.mk (HA.out.below hb1); replace HL := As.mk (HL.out.below hb1); replace HB0 := As.mk (below_seq HB0.out hb1); replace HX := As.mk (HX.out.below hb1); replace HF := As.mk (HF.out.below hb1); replace e0 := cell_below hb1 e0; replace e1 := cell_below hb1 e1; replace e2 := cell_below hb1 e2; clear hb1)
                  | (go_at_call_of 29 (Value.slice B x.length d); refine (same_true x _ _ _ _ _ HY.out HX.out).mono ?_; rintro e w7 ⟨rfl, hb1⟩; clear HY; replace HA := As.mk (HA.out.below hb1); replace HL := As.mk (HL.out.below hb1); replace HB0 := As.mk (below_seq HB0.out hb1); replace HX := As.mk (HX.out.below hb1); replace HF := As.mk (HF.out.below hb1); replace e0 := cell_below hb1 e0; replace e1 := cell_below hb1 e1; replace e2 := cell_below hb1 e2; clear hb1)
                  | (go_at_call 25; refine (HTYA.out _ HA.out).mono ?_; rintro e w8 ⟨v8, rfl, ho8, hb1⟩; have HY := As.mk (own_rd ho8); clear ho8; replace HA := As.mk (HA.out.below hb1); replace HL := As.mk (HL.out.below hb1); replace HB0 := As.mk (below_seq HB0.out hb1); replace HX := As.mk (HX.out.below hb1); replace HF := As.mk (HF.out.below hb1); replace e0 := cell_below hb1 e0; replace e1 := cell_below hb1 e1; replace e2 := cell_below hb1 e2; clear hb1)
                  | (go_at_call 31; refine (TypesR_calls T E x _ _ _ ok _ _ (HT.out.below HB0.out) (HE.out.below HB0.out) HX.out HXL.out).mono ?_; rw [← HTS.out]; rintro e w9 ⟨v9, rfl, ho9, hb1⟩; replace HY := As.mk (HY.out.below hb1); have HZ := As.mk ho9; clear ho9; replace HA := As.mk (HA.out.below hb1); replace HL := As.mk (HL.out.below hb1); replace HB0 := As.mk (below_seq HB0.out hb1); replace HX := As.mk (HX.out.below hb1); replace HF := As.mk (HF.out.below hb1); replace e0 := cell_below hb1 e0; replace e1 := cell_below hb1 e1; replace e2 := cell_below hb1 e2; clear hb1)
                  | (go_at_call 30; refine (texts_true ts _ _ _ _ _ HY.out HZ.out).mono ?_; rintro e w10 ⟨rfl, hb1⟩; clear HY HZ; replace HA := As.mk (HA.out.below hb1); replace HL := As.mk (HL.out.below hb1); replace HB0 := As.mk (below_seq HB0.out hb1); replace HX := As.mk (HX.out.below hb1); replace HF := As.mk (HF.out.below hb1); replace e0 := cell_below hb1 e0; replace e1 := cell_below hb1 e1; replace e2 := cell_below hb1 e2; clear hb1)
                  | (go_at_call 26; refine (HFLA.out _ HA.out).mono ?_; rintro e w11 ⟨v11, rfl, ho11, hb1⟩; have HY := As.mk (own_rd ho11); clear ho11; replace HA := As.mk (HA.out.below hb1); replace HL := As.mk (HL.out.below hb1); replace HB0 := As.mk (below_seq HB0.out hb1); replace HX := As.mk (HX.out.below hb1); replace HF := As.mk (HF.out.below hb1); replace e0 := cell_below hb1 e0; replace e1 := cell_below hb1 e1; replace e2 := cell_below hb1 e2; clear hb1)
                  | (go_at_call_of 29 (Value.slice FA fs.length fc); refine (same_true fs _ _ _ _ _ HY.out HF.out).mono ?_; rintro e w12 ⟨rfl, hb1⟩; clear HY; replace HA := As.mk (HA.out.below hb1); replace HL := As.mk (HL.out.below hb1); replace HB0 := As.mk (below_seq HB0.out hb1); replace HX := As.mk (HX.out.below hb1); replace HF := As.mk (HF.out.below hb1); replace e0 := cell_below hb1 e0; replace e1 := cell_below hb1 e1; replace e2 := cell_below hb1 e2; clear hb1)
                  | (go_at_call 27; refine (HSTEP.out _ 77 HA.out).mono ?_; rw [HK.out 77]; rintro e w13 ⟨rfl, hb1⟩; replace HA := As.mk (HA.out.below hb1); replace HL := As.mk (HL.out.below hb1); replace HB0 := As.mk (below_seq HB0.out hb1); replace HX := As.mk (HX.out.below hb1); replace HF := As.mk (HF.out.below hb1); replace e0 := cell_below hb1 e0; replace e1 := cell_below hb1 e1; replace e2 := cell_below hb1 e2; clear hb1)
                  | (go_at_call 32; refine (StepR_calls T E R n 77 _ _ _ ok _ _ (HT.out.below HB0.out) (HE.out.below HB0.out) HL.out HE1.out).mono ?_; rintro e w14 ⟨rfl, hb1⟩; replace HA := As.mk (HA.out.below hb1); replace HL := As.mk (HL.out.below hb1); replace HB0 := As.mk (below_seq HB0.out hb1); replace HX := As.mk (HX.out.below hb1); replace HF := As.mk (HF.out.below hb1); replace e0 := cell_below hb1 e0; replace e1 := cell_below hb1 e1; replace e2 := cell_below hb1 e2; clear hb1)))
              clear HX HSTA HTYA HFLA HXL HTS HGX hs77 c2 b0 b1 e2
              go_wp2
              go_loopw [14] (fun v wr => ∃ k : Nat, v = .int .i64 k ∧ k ≤ fs.length ∧ As (AR wr ab gb T E R K) ∧ As (RdL wr (fun _ => True) (.slice (some lad) R.length lc) R) ∧ As (Below w.heap.size w wr) ∧ As (RdI wr (fun k => wd.heap.size ≤ k) (.slice FA fs.length fc) fs) ∧ wr.cell? ⟨w.heap.size, 0, none⟩ = some (.slice TA T.length tc) ∧ wr.cell? ⟨w.heap.size, 1, none⟩ = some (.slice EA E.length ec)) (fun v _ => fs.length - (intOf v).toNat)
              case atStart => exact ⟨0, rfl, by omega, HA, HL, HB0, HF, e0, e1⟩
              case round =>
                clear HA HL HB0 HF e0 e1
                obtain ⟨k, rfl, hk, HA, HL, HB0, HF, b0, b1⟩ := hrel
                by_cases hkl : k < fs.length
                · obtain ⟨fad, rfl, c2⟩ := RdI.at HF.out k hkl
                  generalize fs.getD k 0 = f at *
                  have hkn : (k : Int) < (fs.length : Int) := by omega
                  have hk0 : (0 : Int) ≤ (k : Int) := Int.natCast_nonneg _
                  have hsf : (stepR E R (n : Int) f != stepR E R (n : Int) f) = false := by simp
                  go_wp2
                  have e0 : wr.drew.cell? ⟨w.heap.size, 0, none⟩ = some (.slice TA T.length tc) := b0
                  have e1 : wr.drew.cell? ⟨w.heap.size, 1, none⟩ = some (.slice EA E.length ec) := b1
                  have e2 : wr.drew.cell? (fad.add k) = some (.int .i64 f) := c2
                  have hbd : Below wr.heap.size wr wr.drew := (Below.refl _ _).drew
                  replace HA := As.mk (HA.out.below hbd)
                  replace HL := As.mk (HL.out.below hbd)
                  replace HF := As.mk (HF.out.below hbd)
                  replace HB0 := As.mk (below_seq HB0.out hbd)
                  clear hbd
                  go_region_held3 (fun w' => w'.cell? ⟨w.heap.size, 0, none⟩ = some (.slice TA T.length tc) ∧ w'.cell? ⟨w.heap.size, 1, none⟩ = some (.slice EA E.length ec) ∧ w'.cell? (fad.add k) = some (.int .i64 f)) (first | go_keep | assumption | exact ⟨e0, e1, e2⟩)
                    ((first
                      | (go_at_call 27; refine (HSTEP.out _ f HA.out).mono ?_; rw [HK.out f]; rintro e w13 ⟨rfl, hb1⟩; replace HA := As.mk (HA.out.below hb1); replace HL := As.mk (HL.out.below hb1); replace HB0 := As.mk (below_seq HB0.out hb1); replace HF := As.mk (HF.out.below hb1); replace e0 := cell_below hb1 e0; replace e1 := cell_below hb1 e1; replace e2 := cell_below hb1 e2; clear hb1)
                      | (go_at_call 32; refine (StepR_calls T E R n f _ _ _ ok _ _ (HT.out.below HB0.out) (HE.out.below HB0.out) HL.out HE1.out).mono ?_; rintro e w14 ⟨rfl, hb1⟩; replace HA := As.mk (HA.out.below hb1); replace HL := As.mk (HL.out.below hb1); replace HB0 := As.mk (below_seq HB0.out hb1); replace HF := As.mk (HF.out.below hb1); replace e0 := cell_below hb1 e0; replace e1 := cell_below hb1 e1; replace e2 := cell_below hb1 e2; clear hb1)))
                  clear b0 b1 c2 e2 hsf
                  go_wp2
                  go_roundw
                  case rel => exact ⟨k + 1, by go_num, by omega, HA, HL, HB0, HF, e0, e1⟩
                  case measure => simp [intOf]; omega
                · have hkn : ¬ (k : Int) < (fs.length : Int) := by omega
                  go_wp2
                  go_roundw
                  case rel => exact ⟨(n : Int) + 1, by go_num, by omega, by omega, HA, HL, HB0, b0, b1⟩
                  case measure => simp [intOf]; omega
          · go_wp2
            go_ret
            exact ⟨rfl, HB0.out⟩
end Go.Proofs.YtalnfhipggbdlaaGreatDoor
