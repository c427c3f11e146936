/- auto.Auto: state. -/
import Derived.Test.YtalnfhipggbdlaaGreatDoorA1
namespace Go.Proofs.YtalnfhipggbdlaaGreatDoor
open Go.RowKit
set_option linter.unusedVariables false
set_option linter.unusedSimpArgs false

set_option maxRecDepth 100000 in
set_option maxHeartbeats 2000000 in
theorem State_calls (x : List Int) (u : Value) (base ab gb : Nat) (sv : Value) (st id : Nat) (S : List (List Int)) (m : ByteArray → Option Value) (K : Int × Int → Option Int) (w : World) (hA : AC w base ab gb sv st id S m K)
    (hu : RdI w (fun q => ¬ mutA ab st id sv q) u x) (hx : okO x) (hxl : x.length ≤ 8) (hSl : S.length < 1000000) :
    Calls Tryz.prog 61 #[ptr ab, u] w fun e w' => ∃ sv' m', e = .returned (.int .i64 (if find x S < 0 then (S.length : Int) else find x S)) ∧ AC w' base ab gb sv' st id (addSt S x) m' K ∧ Mv (fun k => k = ab ∨ k = id ∨ sv.ownBlock = some k) w w' ∧
      (sv'.ownBlock = sv.ownBlock ∨ ∃ g, sv'.ownBlock = some g ∧ w.heap.size ≤ g) := by
  have HA := As.mk hA
  have HU := As.mk hu
  have HX := As.mk hx
  obtain ⟨SA, sc, rfl⟩ := hA.form
  obtain ⟨UA, uc, rfl, _, _⟩ := Rd.form hu
  obtain ⟨h0, h1, h2, h3, h4⟩ := set4 hA.a
  clear hA hu hx
  unfold ptr
  have HL : As (∀ X : World, Below w.heap.size w X → (Instr.lookup 85 (.map (some id)) (.string (txt x)) true).run Tryz.prog X = .ok (.tuple #[(m (txt x)).getD (.int .i64 0), .bool (m (txt x)).isSome]) X) := ⟨fun X hX => by
    have := (HA.out.ids.below hX).look key9 und85 (zv3 X) (txt x) true
    simpa using this⟩
  by_cases hf : find x S < 0
  · have HF := As.mk hf
    have HM : As (m (txt x) = none) := ⟨by rw [HA.out.idm x HX.out, if_pos hf]⟩
    rw [if_pos hf]
    have hadd : addSt S x = S ++ [x] := by rw [addSt, if_pos hf]
    rw [hadd]
    clear hf
    rw [HM.out] at HL
    go_enter Tryz.func61, Tryz.ntmps61
    go_wp2_with (first
      | (at_mapUpdate; refine wp_store _ rfl rfl _ _ _ _ rfl 9 3 key9 und85 id m rfl HA1.out.ids (txt x) rfl (.int .i64 S.length) rfl ?_)
      | (go_at_call 83; refine (Text_calls x _ _ _ HU.out HX.out hxl).mono ?_; rintro e w1 ⟨rfl, hb1⟩; have k1 := cell_below hb1 h1; have k3 := cell_below hb1 h3; have hlk := HL.out w1 hb1; have HA1 := As.mk (HA.out.below hb1); have HB1 := As.mk hb1))
    intro w2 hg2 hz2 hst2
    obtain ⟨f1, f2, f3, f4, f5⟩ := HA1.out.far
    obtain ⟨vs, hvl, hvo, hvf⟩ := HA1.out.rows
    have hai : some ab ≠ some id := fun e => f2 (Option.some.inj e)
    have HO2 := As.mk (own_move hvo (fun q hq hlt => hg2.block q hlt (fun e => f5 (by rw [hq]; exact e))))
    have HMV2 := As.mk (Mv.of_grown hg2)
    have HA2 := As.mk ((hg2.block ab (Array.getElem?_eq_some_iff.1 HA1.out.a).1 hai).trans HA1.out.a)
    have HST2 := As.mk (hst2 (fun s => if s = txt x then some (.int .i64 S.length) else m s) (by simp) (fun y hy => by simp [hy]))
    have j1 := cell_grown hg2 k1 hai
    have HU1 := As.mk (HU.out.below HB1.out)
    have hbz : base ≤ w2.heap.size := by have := HA1.out.abase; have := (Array.getElem?_eq_some_iff.1 HA2.out).1; omega
    have HF1 := As.mk hvf
    have HVL := As.mk hvl
    clear hg2 hst2 hvo hvf hvl k1 k3 h0 h1 h2 h3 hb1 hlk hz2
    go_wp2_with (at_builtin; refine wp_append (HO2.out.alloc _) (rd_box _ _ _) Tryz.underlying35 info39 rfl (by decide) (by decide) rfl rfl rfl rfl (one_slice _ _ _) rfl ?_ ?_ ?_)
    · simp; omega
    · omega
    intro v3 w3 ho3 hg3 ha3
    obtain ⟨A3, c3, rfl⟩ := own_slice ho3
    have HO3 := As.mk ho3
    have hbx : Below w2.heap.size w2 (w2.alloc (.cells #[.slice UA x.length uc] 39)) := by go_grown
    have hgw : w2.grownBy w3 (Value.slice SA S.length sc).ownBlock := (World.grownBy_alloc _ _ _).trans hg3
    have hab3 : some ab ≠ (Value.slice SA S.length sc).ownBlock := fun e => f3 e.symm
    have hA3 := (hgw.block ab (Array.getElem?_eq_some_iff.1 HA2.out).1 hab3).trans HA2.out
    obtain ⟨g0, g1, g2, g3, g4⟩ := set4 hA3
    have HA3 := As.mk hA3
    have HGW := As.mk hgw
    have HAT : As ((Value.slice A3 (S.length + 1) c3).ownBlock = (Value.slice SA S.length sc).ownBlock ∨ ∃ g, (Value.slice A3 (S.length + 1) c3).ownBlock = some g ∧ w1.heap.size ≤ g) := ⟨by
      rcases ha3 with h | h
      · exact Or.inl h
      · exact Or.inr ⟨_, h, by have := HMV2.out.size; simp; omega⟩⟩
    clear ho3 hg3 hgw hA3 ha3 hbx
    go_wp2
    go_ret
    have hM3 : Mv (fun k => k = ab ∨ k = id ∨ (Value.slice SA S.length sc).ownBlock = some k) w1 (w3.setCell ⟨ab, 1, none⟩ (.slice A3 (S.length + 1) c3)) :=
      (((HMV2.out).mono (S' := fun k => k = ab ∨ k = id ∨ (Value.slice SA S.length sc).ownBlock = some k) (fun k _ h => Or.inr (Or.inl (Option.some.inj h).symm))).trans ((Mv.of_grown HGW.out).mono (S' := fun k => k = ab ∨ k = id ∨ (Value.slice SA S.length sc).ownBlock = some k) (fun k _ h => Or.inr (Or.inr h))) (fun k _ h => h)).trans
        ((Mv.setCell w3 ⟨ab, 1, none⟩ (.slice A3 (S.length + 1) c3)).mono (S' := fun k => k = ab ∨ k = id ∨ (Value.slice SA S.length sc).ownBlock = some k) (fun k _ h => Or.inl h)) (fun k _ h => h)
    have h3ne : (Value.slice A3 (S.length + 1) c3).ownBlock ≠ some ab := fun e => by
      obtain ⟨cs, hcs⟩ := own_typed HO3.out ab e
      rw [HA3.out] at hcs
      simp at hcs
    have hown : (w3.setCell ⟨ab, 1, none⟩ (.slice A3 (S.length + 1) c3)).ownsRow base 39 1 (.slice A3 (S.length + 1) c3) (S.length + 1) (vs ++ [.slice UA x.length uc]) :=
      own_move HO3.out (fun k hk _ => Below.heap_setCell _ _ _ k (fun e => h3ne (by rw [hk]; simp at e; rw [e])))
    have hids : MapIs (w3.setCell ⟨ab, 1, none⟩ (.slice A3 (S.length + 1) c3)) Value.string id (fun s => if s = txt x then some (.int .i64 S.length) else m s) := by
      refine (HST2.out.move (HGW.out.block id HST2.out.lt (fun e => f5 e.symm))).move ?_
      exact Below.heap_setCell _ _ _ id (fun e => f2 (by simpa using e.symm))
    have hfin := HA1.out.pushed (w1 := w3.setCell ⟨ab, 1, none⟩ (.slice A3 (S.length + 1) c3)) (x := x) (u := .slice UA x.length uc) HU1.out HX.out HF.out HVL.out HF1.out hM3 (set4_put1 HA3.out _) hown HAT.out hids (by simp) (fun s hs => by simp [hs])
    refine ⟨_, _, rfl, hfin, (Mv.of_self HB1.out _).trans hM3 (fun k _ h => h), ?_⟩
    rcases HAT.out with h | ⟨g, h, hg⟩
    · exact Or.inl h
    · exact Or.inr ⟨g, h, Nat.le_trans HB1.out.size hg⟩
  · have HF := As.mk hf
    have HM : As (m (txt x) = some (.int .i64 (find x S))) := ⟨by rw [HA.out.idm x HX.out, if_neg hf]⟩
    rw [if_neg hf]
    have hadd : addSt S x = S := by rw [addSt, if_neg hf]
    rw [hadd]
    clear hf
    rw [HM.out] at HL
    go_enter Tryz.func61, Tryz.ntmps61
    go_wp2_with (go_at_call 83; refine (Text_calls x _ _ _ HU.out HX.out hxl).mono ?_; rintro e w1 ⟨rfl, hb1⟩; have k1 := cell_below hb1 h1; have k3 := cell_below hb1 h3; have hlk := HL.out w1 hb1; have HA1 := As.mk (HA.out.below hb1); have HB1 := As.mk hb1)
    go_ret
    exact ⟨_, _, rfl, HA1.out, Mv.of_self HB1.out _, Or.inl rfl⟩
end Go.Proofs.YtalnfhipggbdlaaGreatDoor
