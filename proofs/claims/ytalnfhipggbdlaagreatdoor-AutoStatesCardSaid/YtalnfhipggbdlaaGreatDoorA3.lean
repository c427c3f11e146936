/- auto.Auto that is read: there, Len, State, Types, Fields, Step, Single, Run. -/
import Derived.Test.YtalnfhipggbdlaaGreatDoorA2
namespace Go.Proofs.YtalnfhipggbdlaaGreatDoor
open Go.RowKit
set_option linter.unusedVariables false
set_option linter.unusedSimpArgs false

/-- An automaton that is read, with its graph. -/
def AR (w : World) (ab gb : Nat) (T : List ByteArray) (E : List Edge) (S : List (List Int)) (K : Int × Int → Option Int) : Prop :=
  (∃ base sv st id m, AC w base ab gb sv st id S m K) ∧ GR w gb T E
theorem AR.below {w w1 : World} {ab gb : Nat} {T : List ByteArray} {E : List Edge} {S : List (List Int)} {K : Int × Int → Option Int} (h : AR w ab gb T E S K) (hb : Below w.heap.size w w1) : AR w1 ab gb T E S K := by
  obtain ⟨⟨base, sv, st, id, m, h1⟩, h2⟩ := h
  exact ⟨⟨base, sv, st, id, m, h1.below hb⟩, h2.below hb⟩
def inS (S : List (List Int)) (i : Int) : Bool := decide (0 ≤ i) && decide (i < (S.length : Int))
def good (S : List (List Int)) : Prop := ∀ x ∈ S, x ≠ [] ∧ x.Pairwise (· < ·) ∧ okO x
def stA (S : List (List Int)) (i : Int) : List Int := if inS S i = true then S.getD i.toNat [] else []
theorem good_at {S : List (List Int)} (h : good S) (n : Nat) (hn : n < S.length) : S.getD n [] ≠ [] ∧ (S.getD n []).Pairwise (· < ·) ∧ okO (S.getD n []) ∧ (S.getD n []).length ≤ 8 := by
  have h1 := h (S.getD n []) (by rw [getD_at S n [] hn]; exact List.getElem_mem hn)
  exact ⟨h1.1, h1.2.1, h1.2.2, okO_len h1.2.2 h1.2.1⟩
theorem inS_iff (S : List (List Int)) (i : Int) (h : inS S i = true) : ∃ n : Nat, i = n ∧ n < S.length := by
  simp only [inS, Bool.and_eq_true, decide_eq_true_eq] at h
  exact ⟨i.toNat, by omega, by omega⟩

theorem ThereA_calls (b n c : Nat) (A : Option Addr) (x z u : Value) (o : Int) (w : World) (hb : w.heap[b]? = some (.cells #[x, .slice A n c, z, u] 87 (0, 0))) :
    Calls Tryz.prog 64 #[.pointer (some ⟨b, 0, none⟩), .int .i64 o] w fun e w' => e = .returned (.bool (decide (0 ≤ o) && decide (o < (n : Int)))) ∧ Below w.heap.size w w' := by
  obtain ⟨h0, h1, h2, h3, h4⟩ := set4 hb
  clear hb
  cases ho : decide (0 ≤ o) with
  | true =>
    go_enter Tryz.func64, Tryz.ntmps64
    go_wp2
    go_ret
    exact ⟨ret_bool (by simp), by go_grown⟩
  | false =>
    go_enter Tryz.func64, Tryz.ntmps64
    go_wp2
    go_ret
    exact ⟨rfl, by go_grown⟩

theorem LenA_calls (ab gb : Nat) (T : List ByteArray) (E : List Edge) (S : List (List Int)) (K : Int × Int → Option Int) (w : World) (hA : AR w ab gb T E S K) :
    Calls Tryz.prog 21 #[ptr ab] w fun e w' => e = .returned (.int .i64 S.length) ∧ Below w.heap.size w w' := by
  obtain ⟨⟨base, sv, st, id, m, hA⟩, hG⟩ := hA
  obtain ⟨A, c, rfl⟩ := hA.form
  obtain ⟨h0, h1, h2, h3, h4⟩ := set4 hA.a
  unfold ptr
  clear hA hG
  go_enter Tryz.func21, Tryz.ntmps21
  go_wp2
  go_ret
  exact ⟨rfl, by go_grown⟩

set_option maxRecDepth 100000 in
set_option maxHeartbeats 1000000 in
theorem StateA_calls (ab gb : Nat) (T : List ByteArray) (E : List Edge) (S : List (List Int)) (K : Int × Int → Option Int) (i : Int) (w : World) (hA : AR w ab gb T E S K) (hS : good S) :
    Calls Tryz.prog 24 #[ptr ab, .int .i64 i] w fun e w' => ∃ v, e = .returned v ∧ w'.ownsRow w.heap.size 3 1 v (stA S i).length (ints (stA S i)) ∧ Below w.heap.size w w' := by
  obtain ⟨⟨base, sv, st, id, m, hA⟩, hG⟩ := hA
  obtain ⟨A, c, rfl⟩ := hA.form
  obtain ⟨h0, h1, h2, h3, h4⟩ := set4 hA.a
  have HT := As.mk (ThereA_calls ab S.length c A _ _ _ i w hA.a)
  have HA := As.mk hA
  have HS := As.mk hS
  unfold ptr
  clear hG hA hS
  cases hi : inS S i with
  | true =>
    obtain ⟨n, rfl, hn⟩ := inS_iff S i hi
    have hi2 : stA S n = S.getD n [] := by simp [stA, hi]
    unfold inS at hi
    rw [hi] at HT
    rw [hi2]
    obtain ⟨u, hu, hc⟩ := HA.out.at n hn
    obtain ⟨ad, rfl, hcu⟩ := hc A c rfl
    have HU := As.mk hu
    have HL := As.mk (good_at HS.out n hn).2.2.2
    clear hi hu hc
    go_enter Tryz.func24, Tryz.ntmps24
    go_wp2_with (first
      | (go_at_call 64; refine (HT.out).mono ?_; rintro e w1 ⟨rfl, hb1⟩; have k1 := cell_below hb1 h1; have k2 := cell_below hb1 hcu)
      | (go_at_call 65; refine (CloneI_calls (S.getD n []) _ _ _ (HU.out.below hb1) (Nat.lt_of_le_of_lt HL.out (by decide))).mono ?_; rintro e w2 ⟨v2, rfl, ho2, hb2⟩; have HO2 := As.mk ho2; clear ho2))
    go_ret
    exact ⟨_, rfl, own_lower HO2.out hb1.size, below_seq hb1 hb2⟩
  | false =>
    have hi2 : stA S i = [] := by simp [stA, hi]
    unfold inS at hi
    rw [hi] at HT
    rw [hi2]
    clear hi
    go_enter Tryz.func24, Tryz.ntmps24
    go_wp2_with (go_at_call 64; refine (HT.out).mono ?_; rintro e w1 ⟨rfl, hb1⟩)
    go_ret
    exact ⟨_, rfl, own_nil _ _ _ _, hb1⟩

set_option maxRecDepth 100000 in
set_option maxHeartbeats 1000000 in
theorem TypesA_calls (ab gb : Nat) (T : List ByteArray) (E : List Edge) (S : List (List Int)) (K : Int × Int → Option Int) (i : Int) (w : World) (hA : AR w ab gb T E S K) (hS : good S) :
    Calls Tryz.prog 25 #[ptr ab, .int .i64 i] w fun e w' => ∃ v, e = .returned v ∧ w'.ownsRow w.heap.size 9 1 v (typesR T (stA S i)).length (strs (typesR T (stA S i))) ∧ Below w.heap.size w w' := by
  have HAR := As.mk hA
  obtain ⟨⟨base, sv, st, id, m, hA⟩, hG⟩ := hA
  obtain ⟨A, c, rfl⟩ := hA.form
  obtain ⟨h0, h1, h2, h3, h4⟩ := set4 hA.a
  have HS := As.mk hS
  have HL : As ((stA S i).length < 1000000) := ⟨by
    unfold stA
    split
    · rename_i hi
      obtain ⟨n, rfl, hn⟩ := inS_iff S i hi
      have := (good_at hS n hn).2.2.2
      rw [Int.toNat_natCast]; omega
    · simp⟩
  unfold ptr at *
  clear hG hA hS
  have HST := As.mk (fun X (hX : Below w.heap.size w X) => StateA_calls ab gb T E S K i X (HAR.out.below hX) HS.out)
  unfold ptr at HST
  go_enter Tryz.func25, Tryz.ntmps25
  go_wp2
  go_region_held3 (fun w' => w'.cell? ⟨ab, 0, none⟩ = some (.pointer (some ⟨gb, 0, none⟩))) (first | go_keep | assumption)
    ((first
      | (go_at_call 24; refine (HST.out _ (Below.refl _ _).drew).mono ?_; rintro e w1 ⟨v1, rfl, ho1, hb1⟩; have HO1 := As.mk ho1; have HB1 := As.mk ((Below.refl w.heap.size w).drew.trans hb1); have k0 := cell_below HB1.out h0; clear ho1 hb1)
      | (go_at_call 66; refine (TypesG_calls T E (stA S i) gb v1 _ _ (HAR.out.2.below HB1.out) (own_rd HO1.out) HL.out).mono ?_; rintro e w2 ⟨v2, rfl, ho2, hb2⟩; have HO2 := As.mk ho2; have HB2 := As.mk hb2; have k2 := cell_below hb2 k0; clear ho2 hb2)))
  go_wp2
  go_ret
  exact ⟨_, rfl, own_lower HO2.out HB1.out.size, below_seq HB1.out HB2.out⟩
end Go.Proofs.YtalnfhipggbdlaaGreatDoor
