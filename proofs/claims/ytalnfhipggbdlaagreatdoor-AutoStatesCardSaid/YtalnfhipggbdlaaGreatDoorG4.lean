/- graph: Types, Type. -/
import Derived.Test.YtalnfhipggbdlaaGreatDoorG3
namespace Go.Proofs.YtalnfhipggbdlaaGreatDoor
open Go.RowKit Go.Sort
set_option linter.unusedVariables false
set_option linter.unusedSimpArgs false

theorem ltS_iff (a b : ByteArray) : ltS a b = true ↔ toL a < toL b := by
  rw [ltS, bytesLess_eq, Lib.toList_data, Lib.toList_data]; simp [toL]
theorem insS_mem (t x : ByteArray) : ∀ l : List ByteArray, x ∈ insS t l ↔ x = t ∨ x ∈ l
  | [] => by simp [insS]
  | a :: l => by
    rw [insS]
    split
    · rw [List.mem_cons, insS_mem t x l, List.mem_cons]
      constructor
      · rintro (h | h | h) <;> simp [h]
      · rintro (h | h | h) <;> simp [h]
    · split
      · rename_i h; subst h; simp
      · simp
def upSS (l : List ByteArray) : Prop := (l.map toL).Pairwise (· < ·)
theorem insS_up (t : ByteArray) : ∀ l : List ByteArray, upSS l → upSS (insS t l)
  | [], _ => by simp [insS, upSS]
  | a :: l, h => by
    have hp := List.pairwise_cons.1 h
    rw [insS]
    split
    · rename_i h1
      refine List.pairwise_cons.2 ⟨fun x hx => ?_, insS_up t l hp.2⟩
      obtain ⟨y, hy, rfl⟩ := List.mem_map.1 hx
      rcases (insS_mem t y l).1 hy with rfl | hy
      · exact (ltS_iff _ _).1 h1
      · exact hp.1 _ (List.mem_map.2 ⟨y, hy, rfl⟩)
    · split
      · exact h
      · rename_i h1 h2
        have hta : toL t < toL a := by
          by_cases h3 : toL t < toL a
          · exact h3
          · have h4 : ¬ toL a < toL t := fun h => h1 ((ltS_iff _ _).2 h)
            exact absurd (toL_inj (List.le_antisymm h3 h4)) h2
        refine List.pairwise_cons.2 ⟨fun x hx => ?_, h⟩
        rcases List.mem_cons.1 hx with rfl | hx
        · exact hta
        · exact List.lt_trans hta (hp.1 _ hx)
def tysL (T : List ByteArray) (os : List Int) : List ByteArray := os.flatMap (fun o => if 0 ≤ o ∧ o < (T.length : Int) then [T.getD o.toNat ByteArray.empty] else [])
theorem typesR_gen (T : List ByteArray) : ∀ (os : List Int) (s : List ByteArray), upSS s → upSS (os.foldl (fun out o => if 0 ≤ o ∧ o < (T.length : Int) then insS (T.getD o.toNat ByteArray.empty) out else out) s) ∧
    ∀ x, x ∈ os.foldl (fun out o => if 0 ≤ o ∧ o < (T.length : Int) then insS (T.getD o.toNat ByteArray.empty) out else out) s ↔ x ∈ s ∨ x ∈ tysL T os
  | [], s, h => ⟨h, by simp [tysL]⟩
  | o :: os, s, h => by
    rw [List.foldl_cons]
    by_cases hc : 0 ≤ o ∧ o < (T.length : Int)
    · rw [if_pos hc]
      obtain ⟨g1, g2⟩ := typesR_gen T os _ (insS_up (T.getD o.toNat ByteArray.empty) s h)
      refine ⟨g1, fun x => ?_⟩
      rw [g2, insS_mem]
      simp only [tysL, List.flatMap_cons, if_pos hc, List.mem_append, List.mem_singleton]
      constructor
      · rintro ((h | h) | h)
        · exact Or.inr (Or.inl h)
        · exact Or.inl h
        · exact Or.inr (Or.inr h)
      · rintro (h | h | h)
        · exact Or.inl (Or.inr h)
        · exact Or.inl (Or.inl h)
        · exact Or.inr h
    · rw [if_neg hc]
      obtain ⟨g1, g2⟩ := typesR_gen T os s h
      refine ⟨g1, fun x => ?_⟩
      rw [g2]
      simp only [tysL, List.flatMap_cons, if_neg hc, List.nil_append]
theorem typesR_up (T : List ByteArray) (os : List Int) : upSS (typesR T os) := (typesR_gen T os [] (by simp [upSS])).1
theorem typesR_mem (T : List ByteArray) (os : List Int) (x : ByteArray) : x ∈ typesR T os ↔ x ∈ tysL T os := by
  have := (typesR_gen T os [] (by simp [upSS])).2 x
  simpa [typesR] using this
theorem tys_up (T : List ByteArray) (os : List Int) : upL ((tysL T os).map toL) = (typesR T os).map toL := by
  obtain ⟨h1, h2⟩ := upL_spec ((tysL T os).map toL)
  refine eqL h1 (typesR_up T os) (fun x => ?_)
  rw [h2]
  simp only [List.mem_map, typesR_mem]
theorem tysL_len (T : List ByteArray) : ∀ os : List Int, (tysL T os).length ≤ os.length
  | [] => by simp [tysL]
  | o :: os => by
    have h := tysL_len T os
    have h2 : tysL T (o :: os) = (if 0 ≤ o ∧ o < (T.length : Int) then [T.getD o.toNat ByteArray.empty] else []) ++ tysL T os := by simp [tysL]
    rw [h2, List.length_append, List.length_cons]
    split
    · rw [List.length_singleton]; omega
    · rw [List.length_nil]; omega
theorem GR.typ {w : World} {gb : Nat} {T : List ByteArray} {E : List Edge} (h : GR w gb T E) : ∃ A c nb mb, w.heap[gb]? = some (.cells #[.slice A T.length c, .map (some nb), .map (some mb)] 79 (0, 0)) ∧ RdS w (fun _ => True) (.slice A T.length c) T := by
  obtain ⟨base, tv, nb, mb, N, R, h1, h2⟩ := h
  obtain ⟨A, c, rfl⟩ := own_slice h1.t
  exact ⟨A, c, nb, mb, h1.g, Rd.any (own_rd h1.t)⟩

set_option maxRecDepth 100000 in
set_option maxHeartbeats 1000000 in
theorem TypesG_calls (T : List ByteArray) (E : List Edge) (os : List Int) (gb : Nat) (ov : Value) (ok : Nat → Prop) (w : World) (hG : GR w gb T E) (hO : RdI w ok ov os) (hol : os.length < 1000000) :
    Calls Tryz.prog 66 #[ptr gb, ov] w fun e w' => ∃ v', e = .returned v' ∧ w'.ownsRow w.heap.size 9 1 v' (typesR T os).length (strs (typesR T os)) ∧ Below w.heap.size w w' := by
  obtain ⟨TA, tc, nb, mb, hg, hT⟩ := hG.typ
  have HGB := As.mk hg
  have HT := As.mk hT
  obtain ⟨A, c, rfl, _, _⟩ := Rd.form hO
  have HO := As.mk hO
  have HTL := As.mk (tysL_len T)
  obtain ⟨h0, h1, h2, h3⟩ := set3 hg
  clear hG hg hT hO
  unfold ptr
  go_enter Tryz.func66, Tryz.ntmps66
  go_wp2
  go_loopw [5, 10] (fun o v wr => ∃ k : Nat, v = .int .i64 k ∧ k ≤ os.length ∧ As (wr.ownsRow w.heap.size 9 1 o (tysL T (os.take k)).length (strs (tysL T (os.take k)))) ∧ As (Below w.heap.size w wr)) (fun _ v _ => os.length - (intOf v).toNat)
  case atStart => exact ⟨0, rfl, by omega, ⟨own_nil _ _ _ _⟩, ⟨Below.refl _ _⟩⟩
  case round =>
    obtain ⟨k, rfl, hk, hR, hB⟩ := hrel
    obtain ⟨OA, oc, rfl⟩ := own_slice hR.out
    by_cases hlt : k < os.length
    · obtain ⟨ad, rfl, e0⟩ := RdI.at (Rd.below HO.out hB.out) k hlt
      have HS : As (tysL T (os.take (k + 1)) = tysL T (os.take k) ++ (if 0 ≤ os.getD k 0 ∧ os.getD k 0 < (T.length : Int) then [T.getD (os.getD k 0).toNat ByteArray.empty] else [])) := ⟨by
        rw [List.take_succ_eq_append_getElem hlt, tysL, List.flatMap_append, getD_at os k 0 hlt]; simp [tysL]⟩
      have hl1 := HTL.out (os.take k)
      rw [List.length_take] at hl1
      have k0 := cell_below hB.out h0
      have hsz := hB.out.size
      generalize os.getD k 0 = o at *
      have HTH := As.mk (There_calls gb T.length tc TA _ _ o wr (cell_block_below hB.out HGB.out))
      by_cases hc : 0 ≤ o ∧ o < (T.length : Int)
      · have hcb : (decide (0 ≤ o) && decide (o < (T.length : Int))) = true := by simp [hc.1, hc.2]
        obtain ⟨n, rfl⟩ : ∃ n : Nat, o = n := ⟨o.toNat, by omega⟩
        have hn : n < T.length := by omega
        rw [hcb] at HTH
        have HST : As (tysL T (os.take (k + 1)) = tysL T (os.take k) ++ [T.getD n ByteArray.empty]) := ⟨by rw [HS.out, if_pos hc, Int.toNat_natCast]⟩
        obtain ⟨tad, rfl, et⟩ := RdS.at (Rd.below HT.out hB.out) n hn
        generalize T.getD n ByteArray.empty = s at *
        go_wp2_with (first
          | (go_at_call 58; refine (HTH.out).mono ?_; rintro e w1 ⟨rfl, hb1⟩; have q0 := cell_below hb1 k0; have qt := cell_below hb1 et; have HR1 := As.mk (own_below hR.out hb1); have HB1 := As.mk (hB.out.trans (hb1.mono hB.out.size)))
          | (at_builtin; refine wp_append (HR1.out.alloc _) (rd_box _ _ _) Tryz.underlying22 info9 rfl (by decide) (by decide) rfl rfl rfl rfl (strs_one [s]) rfl ?_ ?_ ?_))
        · have := HB1.out.size; simp; omega
        · omega
        intro v3 w3 ho3 hg3 ha3
        have hbx : Below w1.heap.size w1 (w1.alloc (.cells #[Value.string s] 9)) := by go_grown
        obtain ⟨A3, c3, rfl⟩ := own_slice ho3
        have HO3 : As (w3.ownsRow w.heap.size 9 1 (.slice A3 ((tysL T (os.take k)).length + 1) c3) (tysL T (os.take (k + 1))).length (strs (tysL T (os.take (k + 1))))) := ⟨by
          rw [HST.out, strs_append, List.length_append]; exact ho3⟩
        have HB2 := As.mk (HB1.out.trans (hbx.mono HB1.out.size))
        have HB3 : As (Below w.heap.size w w3) := ⟨HB2.out.grown hg3 HB2.out.size (fun q hq => (own_lt HR1.out q hq).1)⟩
        clear ho3
        go_wp2
        go_roundw
        case rel => exact ⟨k + 1, by go_num, by omega, HO3, HB3⟩
        case measure => simp [intOf]; omega
      · have hcb : (decide (0 ≤ o) && decide (o < (T.length : Int))) = false := by
          simp only [Bool.and_eq_false_iff, decide_eq_false_iff_not]; omega
        rw [hcb] at HTH
        have HST : As (tysL T (os.take (k + 1)) = tysL T (os.take k)) := ⟨by rw [HS.out, if_neg hc, List.append_nil]⟩
        go_wp2_with (go_at_call 58; refine (HTH.out).mono ?_; rintro e w1 ⟨rfl, hb1⟩; have HR1 := As.mk (own_below hR.out hb1); have HB1 := As.mk (hB.out.trans (hb1.mono hB.out.size)))
        go_roundw
        case rel => exact ⟨k + 1, by go_num, by omega, ⟨by rw [HST.out]; exact HR1.out⟩, HB1⟩
        case measure => simp [intOf]; omega
    · have hR2 : As (wr.ownsRow w.heap.size 9 1 (.slice OA (tysL T (os.take k)).length oc) (tysL T os).length (strs (tysL T os))) := ⟨by have := hR.out; rwa [List.take_of_length_le (by omega)] at this ⊢⟩
      have hfl : (tysL T os).length < 1000000000 := by have := HTL.out os; omega
      have hlt2 : (((tysL T os).map toL).mergeSort fun x y => decide (x ≤ y)).length = (tysL T os).length := by rw [List.length_mergeSort, List.length_map]
      have HLT := As.mk hlt2
      go_wp2_with (first
        | (go_at_call 86; refine (SortS_calls (tysL T os) w.heap.size _ _ hR2.out hfl).mono ?_; rintro e w1 ⟨rfl, ho1, hg1⟩; have HO1 := As.mk (HLT.out ▸ ho1 : w1.ownsRow w.heap.size 9 1 _ (((tysL T os).map toL).mergeSort fun x y => decide (x ≤ y)).length _); clear ho1)
        | (go_at_call 87; refine (CompactS_calls _ w.heap.size _ _ HO1.out (HLT.out.symm ▸ hfl)).mono ?_; rintro e w2 ⟨v2, rfl, ho2, hg2, ha2⟩; have HO2 := As.mk ho2; clear ho2))
      go_ret
      have hup := tys_up T os
      unfold upL at hup
      have ho2 := HO2.out
      rw [hup, List.length_map, ← strs_enc] at ho2
      have hq : ∀ q, (Value.slice OA (tysL T (os.take k)).length oc).ownBlock = some q → w.heap.size ≤ q := fun q hq => (own_lt hR.out q hq).1
      have b1 : Below w.heap.size w w1 := hB.out.trans (below_grown hg1 hq hB.out.size)
      exact ⟨_, rfl, ho2, b1.trans (below_grown hg2 hq b1.size)⟩
end Go.Proofs.YtalnfhipggbdlaaGreatDoor
