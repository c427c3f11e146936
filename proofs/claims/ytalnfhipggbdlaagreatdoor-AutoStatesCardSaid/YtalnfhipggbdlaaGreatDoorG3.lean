/- graph: Fields, Next, Types. -/
import Derived.Test.YtalnfhipggbdlaaGreatDoorG2
namespace Go.Proofs.YtalnfhipggbdlaaGreatDoor
open Go.RowKit
set_option linter.unusedVariables false
set_option linter.unusedSimpArgs false

theorem below_grown {w w1 : World} {base : Nat} {r : Option Nat} (hg : w.grownBy w1 r) (hr : ∀ k, r = some k → base ≤ k) (hb : base ≤ w.heap.size) : Below base w w1 :=
  (Mv.of_grown hg).below (fun k hk => hr k hk) hb
def flatF (E : List Edge) (os : List Int) : List Int := os.flatMap (fun o => fldsR [o] E)
theorem flatF_len (E : List Edge) : ∀ os : List Int, (flatF E os).length ≤ os.length * E.length
  | [] => by simp [flatF]
  | o :: os => by
    have h := flatF_len E os
    have h2 := fldsR_len [o] E E.length (Nat.le_refl _)
    rw [List.take_length] at h2
    simp only [flatF, List.flatMap_cons, List.length_append, List.length_cons] at h ⊢
    rw [Nat.add_mul]; omega
theorem flatF_up (E : List Edge) (os : List Int) (ho : os ≠ []) : upI (flatF E os) = fldsR os E := by
  obtain ⟨h1, h2⟩ := upI_spec (flatF E os)
  refine eqI h1 (fldsR_up os E) (fun x => ?_)
  rw [h2, fldsR_mem os E x ho]
  simp only [flatF, List.mem_flatMap]
  constructor
  · rintro ⟨o, ho, hx⟩
    obtain ⟨e, h1, h2, h3⟩ := (fldsR_mem [o] E x (by simp)).1 hx
    exact ⟨e, h1, by have : e.1 = o := by simpa using h2
                     rw [this]; exact ho, h3⟩
  · rintro ⟨e, h1, h2, h3⟩
    exact ⟨e.1, h2, (fldsR_mem [e.1] E x (by simp)).2 ⟨e, h1, by simp, h3⟩⟩
/-- What a read graph's map of fields tells. -/
theorem GR.byval {w : World} {gb : Nat} {T : List ByteArray} {E : List Edge} (h : GR w gb T E) : ∃ tv nb mb, w.heap[gb]? = some (.cells #[tv, .map (some nb), .map (some mb)] 79 (0, 0)) ∧ ∀ (o : Int) (x : World), Below w.heap.size w x →
    ∃ vo, (Instr.lookup 77 (.map (some mb)) (.int .i64 o) false).run Tryz.prog x = .ok vo x ∧ RdI x (fun k => k < w.heap.size) vo (fldsR [o] E) := by
  obtain ⟨base, tv, nb, mb, N, R, h1, h2⟩ := h
  refine ⟨tv, nb, mb, h1.g, fun o x hx => ?_⟩
  obtain ⟨vo, g1, g2, _⟩ := h1.byval o
  exact ⟨vo, g1 x (hx.block _ h1.m.lt), ((own_rd g2).below hx |>.mono (fun k hk _ => (own_lt g2 k hk.1).2))⟩

set_option maxRecDepth 100000 in
set_option maxHeartbeats 1000000 in
theorem FieldsG_calls (T : List ByteArray) (E : List Edge) (os : List Int) (gb : Nat) (ov : Value) (ok : Nat → Prop) (w : World) (hG : GR w gb T E) (hO : RdI w ok ov os) (ho : os ≠ []) (hol : os.length < 1000) (hel : E.length < 1000) :
    Calls Tryz.prog 67 #[ptr gb, ov] w fun e w' => ∃ v', e = .returned v' ∧ w'.ownsRow w.heap.size 3 1 v' (fldsR os E).length (ints (fldsR os E)) ∧ Below w.heap.size w w' := by
  obtain ⟨tv, nb, mb, hg, hby⟩ := hG.byval
  have HBY := As.mk hby
  have HGB := As.mk hg
  obtain ⟨A, c, rfl, _, _⟩ := Rd.form hO
  have HO := As.mk hO
  have hos0 : ((os.length : Int) == 0) = false := beq_eq_false_iff_ne.2 (by have := List.length_pos_iff.2 ho; omega)
  have HNE := As.mk ho
  have HFL := As.mk (flatF_len E)
  obtain ⟨h0, h1, h2, h3⟩ := set3 hg
  clear hG hg hby hO ho
  unfold ptr
  go_enter Tryz.func67, Tryz.ntmps67
  go_wp2
  go_loopw [5, 27] (fun o v wr => ∃ k : Nat, v = .int .i64 k ∧ k ≤ os.length ∧ As (wr.ownsRow w.heap.size 3 1 o (flatF E (os.take k)).length (ints (flatF E (os.take k)))) ∧ As (Below w.heap.size w wr)) (fun _ v _ => os.length - (intOf v).toNat)
  case atStart => exact ⟨0, rfl, by omega, ⟨own_nil _ _ _ _⟩, ⟨Below.refl _ _⟩⟩
  case round =>
    obtain ⟨k, rfl, hk, hR, hB⟩ := hrel
    obtain ⟨OA, oc, rfl⟩ := own_slice hR.out
    by_cases hlt : k < os.length
    · obtain ⟨ad, rfl, e0⟩ := RdI.at (Rd.below HO.out hB.out) k hlt
      obtain ⟨vo, hlk, hvo⟩ := HBY.out (os.getD k 0) wr hB.out
      have HVO := As.mk hvo
      have HS : As (flatF E (os.take (k + 1)) = flatF E (os.take k) ++ fldsR [os.getD k 0] E) := ⟨by
        rw [List.take_succ_eq_append_getElem hlt, flatF, List.flatMap_append, getD_at os k 0 hlt]; simp [flatF]⟩
      have hl1 : (flatF E (os.take k)).length ≤ 1000000 := by
        have h5 := HFL.out (os.take k)
        have h6 : (os.take k).length * E.length ≤ 1000 * 1000 := Nat.mul_le_mul (by rw [List.length_take]; omega) (by omega)
        omega
      have hl2 : (fldsR [os.getD k 0] E).length ≤ 1000 := by have := fldsR_len [os.getD k 0] E E.length (Nat.le_refl _); rw [List.take_length] at this; omega
      have k2 := cell_below hB.out h2
      have hsz := hB.out.size
      generalize os.getD k 0 = o at *
      clear hvo
      go_wp2_with (at_builtin; refine wp_append hR.out HVO.out Tryz.underlying39 info3 rfl (by decide) (by decide) rfl rfl rfl rfl (ints_one _) ?_ ?_ ?_ ?_)
      · rw [ints_length]; omega
      · exact hsz
      · omega
      intro v1 w1 ho1 hg1 ha1
      obtain ⟨A1, c1, rfl⟩ := own_slice ho1
      have HO1 : As (w1.ownsRow w.heap.size 3 1 (.slice A1 ((flatF E (os.take k)).length + (fldsR [o] E).length) c1) (flatF E (os.take (k + 1))).length (ints (flatF E (os.take (k + 1))))) := ⟨by
        rw [HS.out, ints_append, List.length_append]; exact ho1⟩
      have HB1 : As (Below w.heap.size w w1) := ⟨(hB.out).grown hg1 (hB.out).size (fun q hq => (own_lt hR.out q hq).1)⟩
      clear ho1
      go_wp2
      go_roundw
      case rel => exact ⟨k + 1, by go_num, by omega, HO1, HB1⟩
      case measure => simp [intOf]; omega
    · have hR2 : As (wr.ownsRow w.heap.size 3 1 (.slice OA (flatF E (os.take k)).length oc) (flatF E os).length (ints (flatF E os))) := ⟨by have := hR.out; rwa [List.take_of_length_le (by omega)] at this ⊢⟩
      have hfl : (flatF E os).length < 1000000000 := by
        have h5 := HFL.out os
        have h6 : os.length * E.length ≤ 1000 * 1000 := Nat.mul_le_mul (by omega) (by omega)
        omega
      have hlt2 : ((flatF E os).mergeSort fun x y => decide (x ≤ y)).length = (flatF E os).length := List.length_mergeSort _
      have HLT := As.mk hlt2
      go_wp2_with (first
        | (go_at_call 88; refine (SortI_calls (flatF E os) w.heap.size _ _ hR2.out hfl).mono ?_; rintro e w1 ⟨rfl, ho1, hg1⟩; have HO1 := As.mk (HLT.out ▸ ho1 : w1.ownsRow w.heap.size 3 1 _ ((flatF E os).mergeSort fun x y => decide (x ≤ y)).length _); clear ho1)
        | (go_at_call 89; refine (CompactI_calls _ w.heap.size _ _ HO1.out (HLT.out.symm ▸ hfl)).mono ?_; rintro e w2 ⟨v2, rfl, ho2, hg2, ha2⟩; have HO2 := As.mk ho2; clear ho2))
      go_ret
      have hup := flatF_up E os HNE.out
      unfold upI at hup
      have ho2 := HO2.out
      rw [hup] at ho2
      have hq : ∀ q, (Value.slice OA (flatF E (os.take k)).length oc).ownBlock = some q → w.heap.size ≤ q := fun q hq => (own_lt hR.out q hq).1
      have b1 : Below w.heap.size w w1 := hB.out.trans (below_grown hg1 hq hB.out.size)
      exact ⟨_, rfl, ho2, b1.trans (below_grown hg2 hq b1.size)⟩

/-! ### Next -/
theorem GR.nextval {w : World} {gb : Nat} {T : List ByteArray} {E : List Edge} (h : GR w gb T E) : ∃ tv nb mb, w.heap[gb]? = some (.cells #[tv, .map (some nb), .map (some mb)] 79 (0, 0)) ∧ ∀ (o f : Int) (x : World), Below w.heap.size w x →
    ∃ p, (Instr.lookup 76 (.map (some nb)) (.agg #[.int .i64 o, .int .i64 f]) false).run Tryz.prog x = .ok p x ∧ SetV x p (nextR f [o] E) := by
  obtain ⟨base, tv, nb, mb, N, R, h1, h2⟩ := h
  refine ⟨tv, nb, mb, h1.g, fun o f x hx => ?_⟩
  have hlk := (h1.n.move (hx.block _ h1.n.lt)).look key83 und76 (zv122 x) (o, f) false
  rcases h1.sets (o, f) with ⟨g1, g2⟩ | ⟨b, g1, g2, g3⟩
  · refine ⟨.pointer none, ?_, Or.inl ⟨rfl, g2⟩⟩
    rw [g1] at hlk; exact hlk
  · refine ⟨ptr b, ?_, Or.inr ⟨b, _, rfl, cell_block_below hx g3, ?_⟩⟩
    · rw [g2] at hlk; exact hlk
    · exact (Rd.any (own_rd (h1.rows.own (.inl (o, f))))).below hx
def allN (E : List Edge) (f : Int) (os : List Int) : List Int := os.foldl (fun s o => mergeL s (nextR f [o] E)) []
theorem allN_gen (E : List Edge) (f : Int) (hok : ∀ e ∈ E, 0 ≤ e.2.2 ∧ e.2.2 < 8) : ∀ (os s : List Int), okO s → s.Pairwise (· < ·) → okO (os.foldl (fun s o => mergeL s (nextR f [o] E)) s) ∧ (os.foldl (fun s o => mergeL s (nextR f [o] E)) s).Pairwise (· < ·) ∧
    ∀ x, x ∈ os.foldl (fun s o => mergeL s (nextR f [o] E)) s ↔ x ∈ s ∨ ∃ o ∈ os, x ∈ nextR f [o] E
  | [], s, h1, h2 => ⟨h1, h2, by simp⟩
  | o :: os, s, h1, h2 => by
    obtain ⟨g1, g2, g3⟩ := allN_gen E f hok os (mergeL s (nextR f [o] E)) (mergeL_ok (nextR_okO f [o] E hok) s h1) (mergeL_up _ s h2)
    refine ⟨g1, g2, fun x => ?_⟩
    rw [List.foldl_cons, g3, mergeL_mem]
    constructor
    · rintro ((h | h) | ⟨o', h, h'⟩)
      · exact Or.inl h
      · exact Or.inr ⟨o, by simp, h⟩
      · exact Or.inr ⟨o', by simp [h], h'⟩
    · rintro (h | ⟨o', h, h'⟩)
      · exact Or.inl (Or.inl h)
      · rcases List.mem_cons.1 h with rfl | h
        · exact Or.inl (Or.inr h')
        · exact Or.inr ⟨o', h, h'⟩
theorem allN_eq (E : List Edge) (f : Int) (os : List Int) (hok : ∀ e ∈ E, 0 ≤ e.2.2 ∧ e.2.2 < 8) : allN E f os = nextR f os E := by
  obtain ⟨g1, g2, g3⟩ := allN_gen E f hok os [] (fun x hx => by simp at hx) List.Pairwise.nil
  refine eqI g2 (nextR_up f os E) (fun x => ?_)
  show x ∈ os.foldl (fun s o => mergeL s (nextR f [o] E)) [] ↔ _
  rw [g3, nextR_mem]
  constructor
  · rintro (h | ⟨o, h, h'⟩)
    · simp at h
    · obtain ⟨e, h1, h2, h3, h4⟩ := (nextR_mem f [o] E x).1 h'
      exact ⟨e, h1, h2, by have : e.1 = o := by simpa using h3
                           rw [this]; exact h, h4⟩
  · rintro ⟨e, h1, h2, h3, h4⟩
    exact Or.inr ⟨e.1, h3, (nextR_mem f [e.1] E x).2 ⟨e, h1, h2, by simp, h4⟩⟩

set_option maxRecDepth 100000 in
set_option maxHeartbeats 1000000 in
theorem NextG_calls (T : List ByteArray) (E : List Edge) (f : Int) (os : List Int) (gb : Nat) (ov : Value) (ok : Nat → Prop) (w : World) (hG : GR w gb T E) (hO : RdI w ok ov os) (hok : ∀ e ∈ E, 0 ≤ e.2.2 ∧ e.2.2 < 8) (hol : os.length < 1000) :
    Calls Tryz.prog 62 #[ptr gb, .int .i64 f, ov] w fun e w' => ∃ v', e = .returned v' ∧ w'.ownsRow w.heap.size 3 1 v' (nextR f os E).length (ints (nextR f os E)) ∧ Below w.heap.size w w' := by
  obtain ⟨tv, nb, mb, hg, hby⟩ := hG.nextval
  have HBY := As.mk hby
  obtain ⟨A, c, rfl, _, _⟩ := Rd.form hO
  have HO := As.mk hO
  have HOK := As.mk hok
  obtain ⟨h0, h1, h2, h3⟩ := set3 hg
  clear hG hg hby hO hok
  unfold ptr
  go_enter Tryz.func62, Tryz.ntmps62
  go_wp2_with (go_at_call 79; refine (Of_calls _).mono ?_; rintro e w1 ⟨b, rfl, hbl, hb1, hb1'⟩; have HB1 := As.mk hb1; have HB1' := As.mk hb1'; clear hb1 hb1')
  go_loopw [13] (fun v wr => ∃ k : Nat, v = .int .i64 k ∧ k ≤ os.length ∧ ∃ vs, As (wr.heap[b]? = some (.cells #[vs, .slice none 0 0, .int .i64 (allN E f (os.take k)).length] 141 (0, 0))) ∧ As (wr.ownsRow w.heap.size 3 1 vs (allN E f (os.take k)).length (ints (allN E f (os.take k)))) ∧ As (Below w.heap.size w wr)) (fun v _ => os.length - (intOf v).toNat)
  case atStart => exact ⟨0, rfl, by omega, _, HB1, ⟨own_nil _ _ _ _⟩, HB1'⟩
  case round =>
    clear HB1 HB1'
    obtain ⟨k, rfl, hk, vs, hS, hV, hB⟩ := hrel
    by_cases hlt : k < os.length
    · obtain ⟨ad, rfl, e0⟩ := RdI.at (Rd.below HO.out hB.out) k hlt
      obtain ⟨p, hlk, hp⟩ := HBY.out (os.getD k 0) f wr hB.out
      have HP := As.mk hp
      have HST : As (allN E f (os.take (k + 1)) = mergeL (allN E f (os.take k)) (nextR f [os.getD k 0] E)) := ⟨foldl_step _ os k hlt 0 []⟩
      have HAK := As.mk (allN_gen E f HOK.out (os.take k) [] (fun x hx => by simp at hx) List.Pairwise.nil)
      have HNK := As.mk (nextR_okO f [os.getD k 0] E HOK.out)
      have HNL : As ((nextR f [os.getD k 0] E).length < 1000000) := ⟨by have := okO_len HNK.out (nextR_up f _ E); omega⟩
      have k1 := cell_below hB.out h1
      have hsz := hB.out.size
      generalize os.getD k 0 = o at *
      clear hp
      go_wp2_with (go_at_call 84; refine (Merge_calls (allN E f (os.take k)) (nextR f [o] E) b w.heap.size vs p _ hS.out hV.out HAK.out.2.1 HAK.out.1 HNK.out HNL.out HP.out hsz).mono ?_; rintro e w2 ⟨u, v2, rfl, hb2, ho2, hm2, ha2⟩; have HB2 := As.mk hb2; have HO2 := As.mk ho2; have HM2 := As.mk hm2; clear hb2 ho2 hm2)
      have HBB : As (Below w.heap.size w w2) := ⟨hB.out.trans (HM2.out.below (fun q hq => by
        rcases hq with rfl | hq
        · exact hbl
        · exact (own_lt hV.out q hq).1) hsz)⟩
      go_roundw
      case rel => exact ⟨k + 1, by go_num, by omega, v2, ⟨by rw [HST.out]; exact HB2.out⟩, ⟨by rw [HST.out]; exact HO2.out⟩, HBB⟩
      case measure => simp [intOf]; omega
    · have heq : allN E f (os.take k) = nextR f os E := by rw [List.take_of_length_le (by omega)]; exact allN_eq E f os HOK.out
      rw [heq] at hS hV
      have HSV : As (SetV wr (.pointer (some ⟨b, 0, none⟩)) (nextR f os E)) := ⟨Or.inr ⟨b, vs, rfl, hS.out, Rd.any (own_rd hV.out)⟩⟩
      have HNL : As ((nextR f os E).length < 1000000) := ⟨by have := okO_len (nextR_okO f os E HOK.out) (nextR_up f _ E); omega⟩
      go_wp2_with (go_at_call 85; refine (List_calls (nextR f os E) _ _ HSV.out HNL.out).mono ?_; rintro e w2 ⟨v2, rfl, ho2, hb2⟩; have HO2 := As.mk ho2; clear ho2)
      go_ret
      exact ⟨_, rfl, own_lower HO2.out hB.out.size, hB.out.trans (hb2.mono hB.out.size)⟩
end Go.Proofs.YtalnfhipggbdlaaGreatDoor
