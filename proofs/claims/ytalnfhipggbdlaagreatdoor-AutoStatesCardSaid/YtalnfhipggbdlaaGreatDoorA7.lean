/- auto.Build, whole. -/
import Derived.Test.YtalnfhipggbdlaaGreatDoorA6
namespace Go.Proofs.YtalnfhipggbdlaaGreatDoor
open Go.RowKit
set_option linter.unusedVariables false
set_option linter.unusedSimpArgs false

def built (w : World) (gb : Nat) (T : List ByteArray) (E : List Edge) (R : List (List Int)) (most : Int) (v : Value) : Prop :=
  if most < (R.length : Int) then v = .tuple #[.pointer none, .int .i64 12] else ∃ ab K, v = .tuple #[ptr ab, .int .i64 0] ∧ AR w ab gb T E R K ∧ KF E R K ∧ good R

theorem DI_step {E : List Edge} {S S' : List (List Int)} {i : Nat} {fs : List Int} {f : Int} (hS : ∀ a : Nat, a < i → S'.getD a [] = S.getD a []) (a g : Int) : DI E S' i (fs ++ [f]) a g ↔ DI E S i fs a g ∨ (a = i ∧ g = f) := by
  unfold DI
  have h1 : (0 ≤ a ∧ a < (i : Int) ∧ g ∈ fldsR (S'.getD a.toNat []) E) ↔ (0 ≤ a ∧ a < (i : Int) ∧ g ∈ fldsR (S.getD a.toNat []) E) := by
    constructor
    · rintro ⟨h0, h1, h2⟩; rw [hS a.toNat (by omega)] at h2; exact ⟨h0, h1, h2⟩
    · rintro ⟨h0, h1, h2⟩; rw [← hS a.toNat (by omega)] at h2; exact ⟨h0, h1, h2⟩
  rw [h1]
  simp only [List.mem_append, List.mem_singleton]
  constructor
  · rintro (h | ⟨h, h' | h'⟩)
    · exact Or.inl (Or.inl h)
    · exact Or.inl (Or.inr ⟨h, h'⟩)
    · exact Or.inr ⟨h, h'⟩
  · rintro ((h | ⟨h, h'⟩) | ⟨h, h'⟩)
    · exact Or.inl h
    · exact Or.inr ⟨h, Or.inl h'⟩
    · exact Or.inr ⟨h, Or.inr h'⟩
theorem DI_next {E : List Edge} {S : List (List Int)} {i : Nat} (a g : Int) : DI E S (i + 1) [] a g ↔ DI E S i (fldsR (S.getD i []) E) a g := by
  unfold DI
  constructor
  · rintro (⟨h0, h1, h2⟩ | ⟨_, h⟩)
    · by_cases e : a = i
      · subst e; rw [Int.toNat_natCast] at h2; exact Or.inr ⟨rfl, h2⟩
      · exact Or.inl ⟨h0, by omega, h2⟩
    · simp at h
  · rintro (⟨h0, h1, h2⟩ | ⟨rfl, h⟩)
    · exact Or.inl ⟨h0, by omega, h2⟩
    · exact Or.inl ⟨by omega, by omega, by rw [Int.toNat_natCast]; exact h⟩

set_option maxRecDepth 100000 in
set_option maxHeartbeats 4000000 in
theorem Build_calls (T : List ByteArray) (E : List Edge) (o most : Int) (gb : Nat) (w : World) (hG : GR w gb T E) (ho : 0 ≤ o ∧ o < (T.length : Int)) (hT : T.length ≤ 8) (hok : ∀ e ∈ E, 0 ≤ e.2.2 ∧ e.2.2 < 8) (hE : E.length < 1000) (n : Nat) (R : List (List Int)) (hR : bfsR E n 0 [[o]] = some R) (hRl : R.length < 1000) :
    Calls Tryz.prog 19 #[ptr gb, .int .i64 o, .int .i64 most] w fun e w' => ∃ v, e = .returned v ∧ built w' gb T E R most v ∧ Below w.heap.size w w' := by
  obtain ⟨TA, tc, nb, mb, hg, _⟩ := hG.typ
  have HL := As.mk (LenG_calls gb T.length tc TA _ _ w hg)
  have hq : ∀ w : World, (binOp .eql 28 (.pointer (some ⟨gb, 0, none⟩)) (.pointer none)).run Tryz.prog w = .ok (.bool false) w := fun w => by kernel_rfl
  have h4 := make84
  have h5 := make85
  have HG := As.mk hG
  have HOK := As.mk hok
  have HR := As.mk hR
  obtain ⟨o0, o1⟩ := ho
  have o0b : decide (o < 0) = false := decide_eq_false (by omega)
  have o1b : decide ((T.length : Int) ≤ o) = false := decide_eq_false (by omega)
  have HO8 : As (okO [o]) := ⟨fun x hx => by simp at hx; subst hx; omega⟩
  unfold ptr
  clear hg hG hok hR
  go_enter Tryz.func19, Tryz.ntmps19
  go_wp2_with (first
    | (go_at_call 60; refine (HL.out).mono ?_; rintro e w1 ⟨rfl, hb1⟩; have HB1 := As.mk hb1; clear hb1)
    | (go_at_call 61; fail))
  obtain ⟨Wb, hWb⟩ : ∃ Wb, Wb = (((w1.alloc (.map #[] 0)).alloc (.map #[] 0)).alloc (.cells #[.pointer (some ⟨gb, 0, none⟩), .slice none 0 0, .map (some w1.heap.size), .map (some (w1.heap.size + 1))] 87)) := ⟨_, rfl⟩
  have hWbs : Wb.heap.size = w1.heap.size + 1 + 1 + 1 := by rw [hWb]; simp
  have hA0 : AC Wb w.heap.size (w1.heap.size + 1 + 1) gb (.slice none 0 0) w1.heap.size (w1.heap.size + 1) [] (fun _ => none) (fun _ => none) := by
    have hs := HB1.out.size
    refine ⟨?_, by omega, by omega, by omega, by omega, ⟨[], rfl, own_nil _ _ _ _, fun i x u hx => by simp at hx⟩, ?_, ?_, fun x hx => by simp [find], fun x hx => by simp at hx⟩
    · rw [hWb]
      have := heap_alloc_new ((w1.alloc (.map #[] 0)).alloc (.map #[] 0)) (.cells #[.pointer (some ⟨gb, 0, none⟩), .slice none 0 0, .map (some w1.heap.size), .map (some (w1.heap.size + 1))] 87)
      simpa [ptr] using this
    · refine (MapIs.made w1).below ?_
      rw [hWb]; simp only [World.size_alloc]; go_grown
    · have := (MapIs.made (enc := Value.string) (w1.alloc (.map #[] 0))).below (w1 := Wb) (by rw [hWb]; go_grown)
      simpa using this
  have hbW : Below w1.heap.size w1 Wb := by rw [hWb]; go_grown
  obtain ⟨W, hW⟩ : ∃ W, W = Wb.alloc (.cells #[.int .i64 o] 3) := ⟨_, rfl⟩
  have hbW2 : Below Wb.heap.size Wb W := by rw [hW]; go_grown
  have HAW := As.mk (hA0.below hbW2)
  have HU0 : As (RdI W (fun q => ¬ mutA (w1.heap.size + 1 + 1) w1.heap.size (w1.heap.size + 1) (.slice none 0 0) q) (.slice (some ⟨w1.heap.size + 1 + 1 + 1, 0, none⟩) 1 1) [o]) := ⟨by
    have h := rd_box Wb (.int .i64 o) 3
    rw [← hW, hWbs] at h
    refine Rd.mono h (fun k hk _ e => ?_)
    rcases e with e | e | e | e
    · omega
    · omega
    · omega
    · simp [Value.ownBlock] at e⟩
  have HBW := As.mk (below_seq (below_seq HB1.out hbW) hbW2)
  rw [← hWb, ← hW]
  clear hW hWb hWbs hA0 hbW hbW2 h4 h5 HB1
  have HS0 := As.mk (State_calls [o] _ w.heap.size (w1.heap.size + 1 + 1) gb _ _ _ [] _ _ W HAW.out HU0.out HO8.out (by simp) (by simp))
  have hz0 : (if find [o] [] < 0 then (([] : List (List Int)).length : Int) else find [o] []) = 0 := by simp [find]
  rw [hz0] at HS0
  unfold ptr at HS0
  go_at_call 61
  refine (HS0.out).mono ?_
  rintro e W2 ⟨sv2, m2, rfl, hA2, hm2, hat2⟩
  have HA2 := As.mk hA2
  have HB2 : As (Below w.heap.size w W2) := ⟨HBW.out.trans (hm2.below (fun k hk => by
    rcases hk with rfl | rfl | hk
    · exact HAW.out.abase
    · exact HAW.out.ibase
    · simp [Value.ownBlock] at hk) HBW.out.size)⟩
  have HAD : addSt [] [o] = [[o]] := by simp [addSt, find]
  rw [HAD] at HA2
  obtain ⟨ab, hab⟩ : ∃ ab, ab = w1.heap.size + 1 + 1 := ⟨_, rfl⟩
  obtain ⟨st, hst⟩ : ∃ st, st = w1.heap.size := ⟨_, rfl⟩
  obtain ⟨id, hid⟩ : ∃ id, id = w1.heap.size + 1 := ⟨_, rfl⟩
  rw [← hab, ← hid] at HA2
  rw [← hst] at HA2
  rw [← hab]
  clear hm2 hat2 HS0 HAW HBW HU0 hA2 hab hst hid
  go_wp2
  go_loopg [9] n (fun kq v wr => ∃ (i : Nat) (S : List (List Int)), v = .int .i64 i ∧ i ≤ S.length ∧ (i < S.length ∨ (S.length : Int) ≤ most) ∧ As (bfsR E kq i S = some R) ∧ As (good S) ∧ As (Below w.heap.size w wr) ∧ ∃ sv m K, As (AC wr w.heap.size ab gb sv st id S m K) ∧ As (KP E (DI E S i []) S K))
  case atStart =>
    refine ⟨0, [[o]], rfl, by simp, Or.inl (by simp), HR, ⟨fun x hx => ?_⟩, HB2, sv2, m2, _, HA2, ⟨KP.empty E _ _ (fun a f h => ?_)⟩⟩
    · simp at hx; subst hx
      exact ⟨by simp, List.pairwise_singleton _ _, HO8.out⟩
    · rcases h with h | h
      · omega
      · simp at h
  case round =>
    clear HA2 HB2 HR
    obtain ⟨i, S, rfl, hi, hmo, hF, hgood, hB, sv, m, K, hA, hK⟩ := hrel
    have HMO := As.mk hmo
    clear hmo
    cases gk with
    | zero => exact absurd hF.out (by simp [bfsR])
    | succ n' =>
      have hF' := hF.out
      have HSR := As.mk (bfsR_le E _ _ _ _ hF.out)
      clear hF
      unfold bfsR at hF'
      obtain ⟨SA, sc, rfl⟩ := hA.out.form
      obtain ⟨c0, c1, c2, c3, c4⟩ := set4 hA.out.a
      by_cases hlt : i < S.length
      · rw [if_pos hlt] at hF'
        have HF := As.mk hF'
        clear hF'
        by_cases hmost : most < (S.length : Int)
        · have HM := As.mk (Int.lt_of_lt_of_le hmost (by have := HSR.out; omega : (S.length : Int) ≤ R.length))
          go_wp2
          go_ret2
          exact ⟨_, rfl, by rw [built, if_pos HM.out]; rfl, hB.out⟩
        · have HMS : As ((S.length : Int) ≤ most) := ⟨by omega⟩
          obtain ⟨x, hx⟩ : ∃ x, x = S.getD i [] := ⟨_, rfl⟩
          have HX := As.mk hx
          have HGX := As.mk (good_at hgood.out i hlt)
          rw [← hx] at HF HGX
          have HFL : As (fldA E S (i : Int) = fldsR x E) := ⟨by simp [fldA, inS, hlt, hx]⟩
          have HFC := As.mk (FieldsA_calls ab gb T E S K i wr ⟨⟨_, _, _, _, _, hA.out⟩, HG.out.below hB.out⟩ hgood.out hE)
          rw [HFL.out] at HFC
          unfold ptr at HFC
          clear hx
          go_wp2_with (go_at_call 26; refine (HFC.out).mono ?_; rintro e w3 ⟨v3, rfl, ho3, hb3⟩; have HO3 := As.mk ho3; have HB3 := As.mk hb3; obtain ⟨FA, fc, rfl⟩ := own_slice ho3; clear ho3 hb3)
          clear c0 c1 c2 c3 c4
          have hfl : (fldsR x E).length ≤ 1000 := by have := fldsR_len x E E.length (Nat.le_refl _); rw [List.take_length] at this; omega
          have HBW3 := As.mk (hB.out.trans (HB3.out.mono hB.out.size))
          have HA3 := As.mk (hA.out.below HB3.out)
          have HRF : As (RdI w3 (fun q => ¬ mutA ab st id (.slice SA S.length sc) q) (.slice FA (fldsR x E).length fc) (fldsR x E)) := ⟨(own_rd HO3.out).mono (fun q hq _ e => by
            have h1 := (Array.getElem?_eq_some_iff.1 hA.out.a).1
            have h2 := hA.out.st.lt
            have h3 := hA.out.ids.lt
            obtain ⟨vs, _, h4, _⟩ := hA.out.rows
            have h5 := hq.2
            rcases e with e | e | e | e
            · omega
            · omega
            · omega
            · have := (own_lt h4 q e).2; omega)⟩
          go_loopw [53] (fun v wr2 => ∃ j : Nat, v = .int .i64 j ∧ j ≤ (fldsR x E).length ∧ As (good (expandR E x S ((fldsR x E).take j))) ∧ As (Below w.heap.size w wr2) ∧ ∃ sv m K, As (AC wr2 w.heap.size ab gb sv st id (expandR E x S ((fldsR x E).take j)) m K) ∧
              As (KP E (DI E (expandR E x S ((fldsR x E).take j)) i ((fldsR x E).take j)) (expandR E x S ((fldsR x E).take j)) K) ∧ As (RdI wr2 (fun q => ¬ mutA ab st id sv q) (.slice FA (fldsR x E).length fc) (fldsR x E))) (fun v _ => (fldsR x E).length - (intOf v).toNat)
          case atStart =>
            exact ⟨0, rfl, by omega, hgood, HBW3, _, _, _, HA3, hK, HRF⟩
          case round =>
            clear HRF HA3 HBW3 HO3 HB3 hA hK hB hgood HFC HFL
            obtain ⟨j, rfl, hj, hgood, hB, sv, m, K, hA, hK, hRF⟩ := hrel
            have HLS : As ((expandR E x S ((fldsR x E).take j)).length < 1000000) := ⟨by
              have h1 := expandR_take E x S (fldsR x E) j
              have h2 := bfsR_le E _ _ _ _ HF.out
              omega⟩
            have hiS : i < (expandR E x S ((fldsR x E).take j)).length := Nat.lt_of_lt_of_le hlt (expandR_le E x _ S)
            have hgx : (expandR E x S ((fldsR x E).take j)).getD i [] = x := by rw [expandR_get E x i _ S hlt]; exact HX.out.symm
            by_cases hjl : j < (fldsR x E).length
            · obtain ⟨fad, rfl, e1⟩ := RdI.at hRF.out j hjl
              have hfm : (fldsR x E).getD j 0 ∈ fldsR x E := by rw [getD_at _ j 0 hjl]; exact List.getElem_mem hjl
              have HNE := As.mk ((nextR_ne_of _ x E HGX.out.1).2 hfm)
              have HST : As (expandR E x S ((fldsR x E).take (j + 1)) = addSt (expandR E x S ((fldsR x E).take j)) (nextR ((fldsR x E).getD j 0) x E)) := ⟨foldl_step _ (fldsR x E) j hjl 0 S⟩
              have HTK : As ((fldsR x E).take (j + 1) = (fldsR x E).take j ++ [(fldsR x E).getD j 0]) := ⟨by rw [List.take_succ_eq_append_getElem hjl, getD_at _ j 0 hjl]⟩
              generalize (fldsR x E).getD j 0 = f at *
              obtain ⟨S1, hS1⟩ : ∃ S1, S1 = expandR E x S ((fldsR x E).take j) := ⟨_, rfl⟩
              rw [← hS1] at hgood hA hK HLS hiS hgx HST
              obtain ⟨SA1, sc1, rfl⟩ := hA.out.form
              obtain ⟨u, hu, hc⟩ := hA.out.at i hiS
              obtain ⟨sad, rfl, hcu⟩ := hc SA1 sc1 rfl
              rw [hgx] at hu
              obtain ⟨UA, uc, rfl, _, _⟩ := Rd.form hu
              have HU := As.mk hu
              obtain ⟨c0, c1, c2, c3, c4⟩ := set4 hA.out.a
              have HGX1 := As.mk hgx
              have HNK := As.mk (nextR_okO f x E HOK.out)
              have HNL := As.mk (okO_len HNK.out (nextR_up f x E))
              clear hu hc hgx hS1
              have HNX : As (Calls Tryz.prog 62 #[.pointer (some ⟨gb, 0, none⟩), .int .i64 f, .slice UA x.length uc] wr.drew fun e w' => ∃ v', e = .returned v' ∧ As (w'.ownsRow wr.heap.size 3 1 v' (nextR f x E).length (ints (nextR f x E))) ∧ As (Below wr.heap.size wr w') ∧ w'.cell? ⟨ab, 2, none⟩ = some (.map (some st))) := ⟨by
                have h1 : Below wr.heap.size wr wr.drew := (Below.refl _ _).drew
                refine (NextG_calls T E f x gb _ _ wr.drew ((HG.out.below hB.out).below h1) (HU.out.below h1) HOK.out (by have := HGX.out.2.2.2; omega)).mono ?_
                rintro e w' ⟨v', rfl, ho, hb⟩
                have h2 := below_seq h1 hb
                exact ⟨v', rfl, ⟨ho⟩, ⟨h2⟩, cell_below h2 c2⟩⟩
              have HSS : As (∀ (w4 : World) (v4 : Value), As (w4.ownsRow wr.heap.size 3 1 v4 (nextR f x E).length (ints (nextR f x E))) → As (Below wr.heap.size wr w4) → Calls Tryz.prog 61 #[.pointer (some ⟨ab, 0, none⟩), v4] w4 fun e w' => ∃ w'' sv' m', e = .returned (.int .i64 (find (nextR f x E) (addSt S1 (nextR f x E)))) ∧
                  (Instr.mapUpdate 84 (.map (some st)) (.agg #[.int .i64 i, .int .i64 f]) (.int .i64 (find (nextR f x E) (addSt S1 (nextR f x E))))).run Tryz.prog w' = .ok () w'' ∧ w'.cell? ⟨ab, 2, none⟩ = some (.map (some st)) ∧ w''.cell? ⟨ab, 2, none⟩ = some (.map (some st)) ∧
                  As (AC w'' w.heap.size ab gb sv' st id (addSt S1 (nextR f x E)) m' (up K ((i : Int), f) (some (find (nextR f x E) (addSt S1 (nextR f x E))))) ∧ Mv (fun k => mutA ab st id (.slice (some sad) S1.length sc1) k) w4 w'' ∧ (sv'.ownBlock = (Value.slice (some sad) S1.length sc1).ownBlock ∨ ∃ g, sv'.ownBlock = some g ∧ w4.heap.size ≤ g))) := ⟨by
                intro w4 v4 ho hb
                have hA4 := hA.out.below hb.out
                refine StateStep_calls (nextR f x E) v4 i f w.heap.size ab gb _ st id S1 m K w4 hA4 ((own_rd ho.out).mono (fun q hq _ e => ?_)) HNK.out HNL.out HLS.out
                have h1 := (Array.getElem?_eq_some_iff.1 hA.out.a).1
                have h2 := hA.out.st.lt
                have h3 := hA.out.ids.lt
                obtain ⟨vs, _, h4, _⟩ := hA.out.rows
                have h5 := hq.2
                rcases e with e | e | e | e
                · omega
                · omega
                · omega
                · have := (own_lt h4 q e).2; omega⟩
              have hi0 : (0 : Int) ≤ (i : Int) := Int.natCast_nonneg _
              have hi1 : (i : Int) < (S1.length : Int) := by omega
              have d1 : wr.drew.cell? ⟨ab, 1, none⟩ = some (.slice (some sad) S1.length sc1) := c1
              have d2 : wr.drew.cell? (sad.add i) = some (.slice UA x.length uc) := hcu
              have d3 : wr.drew.cell? ⟨ab, 2, none⟩ = some (.map (some st)) := c2
              go_wp2
              go_region_with (first
                | (go_at_call 62; refine (HNX.out).mono ?_; rintro e w4 ⟨v4, rfl, ho4, hb4, hc4⟩)
                | (go_at_call 61; refine (HSS.out _ _ ho4 hb4).mono ?_; rintro e w5 ⟨w6, sv6, m6, rfl, hrun, hc5, hc6, hfin⟩))
              all_goals
                have HA6 := As.mk hfin.out.1
                have HM4 : As (Mv (fun k => mutA ab st id (.slice (some sad) S1.length sc1) k) wr w6) := ⟨(Mv.of_self hb4.out _).trans hfin.out.2.1 (fun k _ h => h)⟩
                have HAT : As (sv6.ownBlock = (Value.slice (some sad) S1.length sc1).ownBlock ∨ ∃ g, sv6.ownBlock = some g ∧ wr.heap.size ≤ g) := ⟨by
                  rcases hfin.out.2.2 with h | ⟨g, h, hg⟩
                  · exact Or.inl h
                  · exact Or.inr ⟨g, h, Nat.le_trans hb4.out.size hg⟩⟩
                have HRF6 := As.mk (rd_mut hRF.out HM4.out HAT.out)
                have HB6 : As (Below w.heap.size w w6) := ⟨hB.out.trans (HM4.out.below (fun k hk => by
                  rcases hk with rfl | rfl | rfl | hk
                  · exact hA.out.abase
                  · exact hA.out.sbase
                  · exact hA.out.ibase
                  · obtain ⟨vs, _, h4, _⟩ := hA.out.rows
                    exact (own_lt h4 k hk).1) hB.out.size)⟩
                have HG6 : As (good (addSt S1 (nextR f x E))) := ⟨good_addSt hgood.out HNE.out (nextR_up f x E) HNK.out⟩
                have HK6 : As (KP E (DI E (addSt S1 (nextR f x E)) i ((fldsR x E).take j ++ [f])) (addSt S1 (nextR f x E)) (up K ((i : Int), f) (some (find (nextR f x E) (addSt S1 (nextR f x E)))))) := ⟨by
                  have := KP.step (D' := DI E (addSt S1 (nextR f x E)) i ((fldsR x E).take j ++ [f])) hK.out i f hiS (fun a g => by
                    exact DI_step (fun a ha => addSt_get S1 _ a (by omega)) a g)
                  rwa [HGX1.out] at this⟩
                clear hfin hrun hc4 hc5 hc6 ho4 hb4 HNX HSS d1 d2 d3 c0 c1 c2 c3 c4
                go_wp2
                go_roundw
                case rel => exact ⟨j + 1, by go_num, by omega, ⟨by rw [HST.out]; exact HG6.out⟩, HB6, sv6, m6, _, ⟨by rw [HST.out]; exact HA6.out⟩, ⟨by rw [HST.out, HTK.out]; exact HK6.out⟩, HRF6⟩
                case measure => simp [intOf]; omega
            · have hje : (fldsR x E).take j = fldsR x E := List.take_of_length_le (by omega)
              rw [hje] at hgood hA hK hiS hgx
              have HK7 : As (KP E (DI E (expandR E x S (fldsR x E)) (i + 1) []) (expandR E x S (fldsR x E)) K) := ⟨hK.out.congr (fun a g => by rw [DI_next, hgx])⟩
              have hi1 : i + 1 ≤ (expandR E x S (fldsR x E)).length := hiS
              have hi2 : i + 1 < 1000000 := by have := HLS.out; rw [hje] at this; omega
              have HOR : As (i + 1 < (expandR E x S (fldsR x E)).length ∨ ((expandR E x S (fldsR x E)).length : Int) ≤ most) := ⟨by
                have := HMS.out
                omega⟩
              clear hK hje hgx
              go_wp2
              go_roundg n'
              case measure => omega
              case rel => exact ⟨i + 1, _, by go_num, hi1, HOR.out, HF, hgood, hB, sv, m, K, hA, HK7⟩
      · rw [if_neg hlt] at hF'
        have HRS : As (S = R) := ⟨by injection hF'⟩
        clear hF'
        have hil : ¬ (i : Int) < (S.length : Int) := by omega
        have HI : As (i = S.length) := ⟨by omega⟩
        have HMS : As ((S.length : Int) ≤ most) := ⟨HMO.out.resolve_left hlt⟩
        go_wp2
        go_ret2
        refine ⟨_, rfl, ?_, hB.out⟩
        have h1 := hA.out
        have h2 := hK.out
        have h3 := hgood.out
        have h4 := HMS.out
        have h5 := HI.out
        rw [HRS.out] at h1 h2 h3 h4 h5
        rw [built, if_neg (by omega)]
        rw [h5] at h2
        exact ⟨ab, K, rfl, ⟨⟨_, _, _, _, _, h1⟩, HG.out.below hB.out⟩, h2, h3⟩
end Go.Proofs.YtalnfhipggbdlaaGreatDoor
