/- auto.Auto that is read: Fields, Step, Single, Run. -/
import Derived.Test.YtalnfhipggbdlaaGreatDoorA3
namespace Go.Proofs.YtalnfhipggbdlaaGreatDoor
open Go.RowKit
set_option linter.unusedVariables false
set_option linter.unusedSimpArgs false

def fldA (E : List Edge) (S : List (List Int)) (i : Int) : List Int := if inS S i = true then fldsR (S.getD i.toNat []) E else []

set_option maxRecDepth 100000 in
set_option maxHeartbeats 1000000 in
theorem FieldsA_calls (ab gb : Nat) (T : List ByteArray) (E : List Edge) (S : List (List Int)) (K : Int × Int → Option Int) (i : Int) (w : World) (hA : AR w ab gb T E S K) (hS : good S) (hE : E.length < 1000) :
    Calls Tryz.prog 26 #[ptr ab, .int .i64 i] w fun e w' => ∃ v, e = .returned v ∧ w'.ownsRow w.heap.size 3 1 v (fldA E S i).length (ints (fldA E S i)) ∧ Below w.heap.size w w' := by
  obtain ⟨⟨base, sv, st, id, m, hA⟩, hG⟩ := hA
  obtain ⟨A, c, rfl⟩ := hA.form
  obtain ⟨h0, h1, h2, h3, h4⟩ := set4 hA.a
  have HT := As.mk (ThereA_calls ab S.length c A _ _ _ i w hA.a)
  have HA := As.mk hA
  have HG := As.mk hG
  have HS := As.mk hS
  unfold ptr at *
  clear hG hA hS
  cases hi : inS S i with
  | true =>
    obtain ⟨n, rfl, hn⟩ := inS_iff S i hi
    have hi2 : fldA E S n = fldsR (S.getD n []) E := by simp [fldA, hi]
    unfold inS at hi
    rw [hi] at HT
    rw [hi2]
    obtain ⟨u, hu, hc⟩ := HA.out.at n hn
    obtain ⟨ad, rfl, hcu⟩ := hc A c rfl
    have HU := As.mk hu
    have HL := As.mk (good_at HS.out n hn)
    clear hi hu hc
    go_enter Tryz.func26, Tryz.ntmps26
    go_wp2_with (go_at_call 64; refine (HT.out).mono ?_; rintro e w1 ⟨rfl, hb1⟩; have k0 := cell_below hb1 h0; have k1 := cell_below hb1 h1; have k2 := cell_below hb1 hcu)
    go_still_tail 11, (by kernel_rfl)
    change wpList _ _ _ _ _ w1.drew
    have HBD := As.mk (hb1.drew)
    generalize w1.drew = wd at *
    go_wp2_with (go_at_call 67; refine (FieldsG_calls T E (S.getD n []) gb _ _ _ (HG.out.below HBD.out) (HU.out.below HBD.out) HL.out.1 (Nat.lt_of_le_of_lt HL.out.2.2.2 (by decide)) hE).mono ?_; rintro e w2 ⟨v2, rfl, ho2, hb2⟩; have HO2 := As.mk ho2; have HB2 := As.mk hb2; clear ho2 hb2)
    go_ret
    exact ⟨_, rfl, own_lower HO2.out HBD.out.size, below_seq HBD.out HB2.out⟩
  | false =>
    have hi2 : fldA E S i = [] := by simp [fldA, hi]
    unfold inS at hi
    rw [hi] at HT
    rw [hi2]
    clear hi
    go_enter Tryz.func26, Tryz.ntmps26
    go_wp2_with (go_at_call 64; refine (HT.out).mono ?_; rintro e w1 ⟨rfl, hb1⟩)
    go_ret
    exact ⟨_, rfl, own_nil _ _ _ _, hb1⟩

def stepK (K : Int × Int → Option Int) (i f : Int) : Int := (K (i, f)).getD (-1)
set_option maxRecDepth 100000 in
theorem StepA_calls (ab gb : Nat) (T : List ByteArray) (E : List Edge) (S : List (List Int)) (K : Int × Int → Option Int) (i f : Int) (w : World) (hA : AR w ab gb T E S K) :
    Calls Tryz.prog 27 #[ptr ab, .int .i64 i, .int .i64 f] w fun e w' => e = .returned (.int .i64 (stepK K i f)) ∧ Below w.heap.size w w' := by
  obtain ⟨⟨base, sv, st, id, m, hA⟩, hG⟩ := hA
  obtain ⟨h0, h1, h2, h3, h4⟩ := set4 hA.a
  have hlk := hA.st.look key91 und84 (zv3 w) (i, f) true
  unfold ptr at *
  unfold enc2 at hlk
  clear hG hA
  cases hK : K (i, f) with
  | none =>
    rw [hK] at hlk
    have hs : stepK K i f = -1 := by simp [stepK, hK]
    rw [hs]
    go_enter Tryz.func27, Tryz.ntmps27
    go_wp2
    go_ret
    exact ⟨rfl, by go_grown⟩
  | some j =>
    rw [hK] at hlk
    have hs : stepK K i f = j := by simp [stepK, hK]
    rw [hs]
    go_enter Tryz.func27, Tryz.ntmps27
    go_wp2
    go_ret
    exact ⟨rfl, by go_grown⟩

def runK (K : Int × Int → Option Int) (word : List Int) : Int := word.foldl (fun i f => stepK K i f) 0
set_option maxRecDepth 100000 in
set_option maxHeartbeats 1000000 in
theorem RunA_calls (ab gb : Nat) (T : List ByteArray) (E : List Edge) (S : List (List Int)) (K : Int × Int → Option Int) (word : List Int) (wv : Value) (ok : Nat → Prop) (w : World) (hA : AR w ab gb T E S K) (hS : good S) (hW : RdI w ok wv word) :
    Calls Tryz.prog 33 #[ptr ab, wv] w fun e w' => ∃ v, e = .returned v ∧ w'.ownsRow w.heap.size 9 1 v (typesR T (stA S (runK K word))).length (strs (typesR T (stA S (runK K word)))) ∧ Below w.heap.size w w' := by
  have HA := As.mk hA
  have HS := As.mk hS
  have HW := As.mk hW
  obtain ⟨WA, wc, rfl, _, _⟩ := Rd.form hW
  unfold ptr at *
  clear hA hS hW
  go_enter Tryz.func33, Tryz.ntmps33
  go_wp2
  go_loopw [5, 10] (fun o v wr => ∃ k : Nat, v = .int .i64 k ∧ k ≤ word.length ∧ o = .int .i64 (runK K (word.take k)) ∧ As (Below w.heap.size w wr)) (fun _ v _ => word.length - (intOf v).toNat)
  case atStart => exact ⟨0, rfl, by omega, rfl, ⟨Below.refl _ _⟩⟩
  case round =>
    obtain ⟨k, rfl, hk, rfl, hB⟩ := hrel
    by_cases hlt : k < word.length
    · obtain ⟨ad, rfl, e0⟩ := RdI.at (Rd.below HW.out hB.out) k hlt
      have HST : As (runK K (word.take (k + 1)) = stepK K (runK K (word.take k)) (word.getD k 0)) := ⟨foldl_step _ word k hlt 0 0⟩
      generalize word.getD k 0 = f at *
      generalize runK K (word.take k) = i at *
      have HC := As.mk (StepA_calls ab gb T E S K i f wr (HA.out.below hB.out))
      unfold ptr at HC
      go_wp2_with (go_at_call 27; refine (HC.out).mono ?_; rintro e w1 ⟨rfl, hb1⟩)
      go_roundw
      case rel => exact ⟨k + 1, by go_num, by omega, by rw [HST.out], ⟨hB.out.trans (hb1.mono hB.out.size)⟩⟩
      case measure => simp [intOf]; omega
    · rw [List.take_of_length_le (by omega)]
      have HC := As.mk (TypesA_calls ab gb T E S K (runK K word) wr (HA.out.below hB.out) HS.out)
      unfold ptr at HC
      go_wp2_with (go_at_call 25; refine (HC.out).mono ?_; rintro e w1 ⟨v1, rfl, ho1, hb1⟩; have HO1 := As.mk ho1; clear ho1)
      go_ret
      exact ⟨_, rfl, own_lower HO1.out hB.out.size, hB.out.trans (hb1.mono hB.out.size)⟩

set_option maxRecDepth 100000 in
set_option maxHeartbeats 1000000 in
theorem SingleA_calls (ab gb : Nat) (T : List ByteArray) (E : List Edge) (S : List (List Int)) (K : Int × Int → Option Int) (w : World) (hA : AR w ab gb T E S K) (hS : good S) (hSl : S.length < 1000000) :
    Calls Tryz.prog 22 #[ptr ab] w fun e w' => e = .returned (.bool (singleR T S)) ∧ Below w.heap.size w w' := by
  have HA := As.mk hA
  have HS := As.mk hS
  obtain ⟨⟨base, sv, st, id, m, hA⟩, hG⟩ := hA
  obtain ⟨A, c, rfl⟩ := hA.form
  obtain ⟨h0, h1, h2, h3, h4⟩ := set4 hA.a
  unfold ptr at *
  clear hA hG hS
  go_enter Tryz.func22, Tryz.ntmps22
  go_wp2
  go_loopw [9] (fun v wr => ∃ k : Nat, v = .int .i64 k ∧ k ≤ S.length ∧ As ((S.take k).all (fun s => decide ((typesR T s).length = 1)) = true) ∧ As (Below w.heap.size w wr)) (fun v _ => S.length - (intOf v).toNat)
  case atStart => exact ⟨0, rfl, by omega, ⟨rfl⟩, ⟨Below.refl _ _⟩⟩
  case round =>
    obtain ⟨k, rfl, hk, hall, hB⟩ := hrel
    by_cases hlt : k < S.length
    · have hst : stA S (k : Int) = S.getD k [] := by simp [stA, inS, hlt]
      have HC := As.mk (TypesA_calls ab gb T E S K k wr (HA.out.below hB.out) HS.out)
      rw [hst] at HC
      unfold ptr at HC
      have HALL : As ((S.take (k + 1)).all (fun s => decide ((typesR T s).length = 1)) = decide ((typesR T (S.getD k [])).length = 1)) := ⟨all_step S _ k hlt [] hall.out⟩
      have HGET : As (singleR T S = true → decide ((typesR T (S.getD k [])).length = 1) = true) := ⟨fun h => all_get S _ h k hlt []⟩
      generalize typesR T (S.getD k []) = ts at *
      by_cases h1 : ts.length = 1
      · have h1b : ((ts.length : Int) != 1) = false := bne_eq_false_iff_eq.2 (by omega)
        have H1 := As.mk h1
        go_wp2_with (go_at_call 25; refine (HC.out).mono ?_; rintro e w1 ⟨v1, rfl, ho1, hb1⟩; obtain ⟨A1, c1, rfl⟩ := own_slice ho1; clear ho1)
        go_roundw
        case rel => exact ⟨k + 1, by go_num, by omega, ⟨by rw [HALL.out, H1.out]; rfl⟩, ⟨hB.out.trans (hb1.mono hB.out.size)⟩⟩
        case measure => simp [intOf]; omega
      · have h1b : ((ts.length : Int) != 1) = true := bne_iff_ne.2 (by omega)
        have H1 := As.mk h1
        go_wp2_with (go_at_call 25; refine (HC.out).mono ?_; rintro e w1 ⟨v1, rfl, ho1, hb1⟩; obtain ⟨A1, c1, rfl⟩ := own_slice ho1; clear ho1)
        go_ret
        exact ⟨ret_bool (eq_false_of HGET.out (decide_eq_false H1.out)).symm, hB.out.trans (hb1.mono hB.out.size)⟩
    · have hlt2 : ¬ (k : Int) < (S.length : Int) := by omega
      go_wp2
      go_ret
      have := hall.out
      rw [List.take_of_length_le (by omega)] at this
      exact ⟨ret_bool this.symm, hB.out⟩
end Go.Proofs.YtalnfhipggbdlaaGreatDoor
