/- ints.Set in its list: Add, List, Merge. -/
import Derived.Test.YtalnfhipggbdlaaGreatDoorL2
import Derived.StillTailTactics
import Derived.Deep.RegionWith
namespace Go.Proofs.YtalnfhipggbdlaaGreatDoor
open Go.RowKit
set_option linter.unusedVariables false
set_option linter.unusedSimpArgs false

/-- Only blocks of S changed. -/
structure Mv (S : Nat → Prop) (w w' : World) : Prop where
  os : w'.os = w.os
  tape : w'.tape = w.tape
  output : w'.output = w.output
  size : w.heap.size ≤ w'.heap.size
  block : ∀ k, k < w.heap.size → ¬ S k → w'.heap[k]? = w.heap[k]?
section
variable {S S' : Nat → Prop} {w w1 w2 : World}
theorem Mv.refl (S : Nat → Prop) (w : World) : Mv S w w := ⟨rfl, rfl, rfl, Nat.le_refl _, fun _ _ _ => rfl⟩
theorem Mv.mono (h : Mv S w w1) (hs : ∀ k, k < w.heap.size → S k → S' k) : Mv S' w w1 := ⟨h.os, h.tape, h.output, h.size, fun k hk hn => h.block k hk (fun e => hn (hs k hk e))⟩
theorem Mv.trans (h : Mv S w w1) (h' : Mv S' w1 w2) (hs : ∀ k, k < w.heap.size → S' k → S k) : Mv S w w2 :=
  ⟨h'.os.trans h.os, h'.tape.trans h.tape, h'.output.trans h.output, Nat.le_trans h.size h'.size, fun k hk hn => (h'.block k (Nat.lt_of_lt_of_le hk h.size) (fun e => hn (hs k hk e))).trans (h.block k hk hn)⟩
theorem Mv.of_below {B : Nat} (h : Below B w w1) : Mv (fun k => B ≤ k) w w1 := ⟨h.os, h.tape, h.output, h.size, fun k _ hn => h.block k (by omega)⟩
theorem Mv.of_self (h : Below w.heap.size w w1) (S : Nat → Prop) : Mv S w w1 := ⟨h.os, h.tape, h.output, h.size, fun k hk _ => h.block k hk⟩
theorem Mv.of_grown {r : Option Nat} (h : w.grownBy w1 r) : Mv (fun k => r = some k) w w1 := ⟨h.os, h.tape, h.output, h.size, fun k hk hn => h.block k hk (fun e => hn e.symm)⟩
theorem Mv.below {B : Nat} (h : Mv S w w1) (hs : ∀ k, S k → B ≤ k) (hB : B ≤ w.heap.size) : Below B w w1 := ⟨h.os, h.tape, h.output, h.size, fun k hk => h.block k (by omega) (fun e => by have := hs k e; omega)⟩
end

/-- ref's insertion is the library's: where it isn't there. -/
theorem ins_sorted (n : Int) : ∀ l : List Int, l.Pairwise (· < ·) → ins n l = if l.contains n then l else putAt l (l.countP (· < n)) n
  | [], _ => by simp [ins, putAt]
  | a :: l, h => by
    have ih := ins_sorted n l (List.Pairwise.of_cons h)
    have hall := (List.pairwise_cons.1 h).1
    rw [ins]
    by_cases h1 : a < n
    · rw [if_pos h1, ih]
      have hne : (n == a) = false := by simp; omega
      rw [List.contains_cons, hne, Bool.false_or]
      by_cases h2 : l.contains n = true
      · rw [if_pos h2, if_pos h2]
      · rw [if_neg h2, if_neg h2, List.countP_cons_of_pos (by simpa using h1)]
        simp [putAt]
    · rw [if_neg h1]
      have hc : l.countP (· < n) = 0 := by
        rw [List.countP_eq_zero]
        intro x hx
        have := hall x hx
        simp; omega
      by_cases h2 : a = n
      · rw [if_pos h2]; subst h2; simp
      · rw [if_neg h2]
        have hnc : ¬ (a :: l).contains n = true := by
          simp
          refine ⟨fun e => h2 e.symm, fun hx => ?_⟩
          have := hall n hx
          omega
        rw [if_neg hnc, List.countP_cons_of_neg (by simpa using h1), hc]
        simp [putAt]
theorem ins_mem (n x : Int) : ∀ l : List Int, x ∈ ins n l ↔ x = n ∨ x ∈ l
  | [] => by simp [ins]
  | a :: l => by
    rw [ins]
    split
    · rw [List.mem_cons, ins_mem n x l, List.mem_cons]
      constructor
      · rintro (h | h | h) <;> simp [h]
      · rintro (h | h | h) <;> simp [h]
    · split
      · rename_i h; subst h; simp
      · simp
theorem ins_up (n : Int) : ∀ l : List Int, l.Pairwise (· < ·) → (ins n l).Pairwise (· < ·)
  | [], _ => by simp [ins]
  | a :: l, h => by
    have hall := (List.pairwise_cons.1 h).1
    rw [ins]
    split
    · rename_i h1
      refine List.pairwise_cons.2 ⟨fun x hx => ?_, ins_up n l (List.Pairwise.of_cons h)⟩
      rcases (ins_mem n x l).1 hx with rfl | hx
      · exact h1
      · exact hall x hx
    · split
      · exact h
      · refine List.pairwise_cons.2 ⟨fun x hx => ?_, h⟩
        rcases List.mem_cons.1 hx with rfl | hx
        · omega
        · have := hall x hx; omega

theorem set3 {w : World} {b : Nat} {x y z : Value} {t : TypeId} (h : w.heap[b]? = some (.cells #[x, y, z] t (0, 0))) :
    w.cell? ⟨b, 0, none⟩ = some x ∧ w.cell? ⟨b, 1, none⟩ = some y ∧ w.cell? ⟨b, 2, none⟩ = some z ∧ ∀ o, w.frozen? ⟨b, o, none⟩ = false := by
  simp [World.cell?, World.frozen?, h]

theorem set3_put0 {w : World} {b : Nat} {x y z : Value} {t : TypeId} (h : w.heap[b]? = some (.cells #[x, y, z] t (0, 0))) (u : Value) : (w.setCell ⟨b, 0, none⟩ u).heap[b]? = some (.cells #[u, y, z] t (0, 0)) := by
  simp [World.setCell, Array.getElem?_modify, h]
theorem set3_put2 {w : World} {b : Nat} {x y z : Value} {t : TypeId} (h : w.heap[b]? = some (.cells #[x, y, z] t (0, 0))) (u : Value) : (w.setCell ⟨b, 2, none⟩ u).heap[b]? = some (.cells #[x, y, u] t (0, 0)) := by
  simp [World.setCell, Array.getElem?_modify, h]
theorem Mv.setCell (w : World) (a : Addr) (v : Value) : Mv (fun k => k = a.block) w (w.setCell a v) :=
  ⟨rfl, rfl, rfl, by simp, fun k _ hk => Below.heap_setCell w a v k hk⟩

set_option maxRecDepth 100000 in
theorem eql_ptr122 (w : World) (b : Nat) : (binOp .eql 122 (.pointer (some ⟨b, 0, none⟩)) (.pointer none)).run Tryz.prog w = .ok (.bool false) w := by kernel_rfl
set_option maxRecDepth 100000 in
theorem eql_nil122 (w : World) : (binOp .eql 122 (.pointer none) (.pointer none)).run Tryz.prog w = .ok (.bool true) w := by kernel_rfl

set_option maxRecDepth 100000 in
theorem Many_calls (b : Nat) (v z : Value) (w : World) (hb : w.heap[b]? = some (.cells #[v, .slice none 0 0, z] 141 (0, 0))) :
    Calls Tryz.prog 101 #[.pointer (some ⟨b, 0, none⟩)] w fun e w' => e = .returned (.bool false) ∧ Below w.heap.size w w' := by
  obtain ⟨h0, h1, h2, h3⟩ := set3 hb
  clear hb
  have hneq : ∀ w : World, (binOp .neq 139 (.slice none 0 0) (.slice none 0 0)).run Tryz.prog w = .ok (.bool false) w := fun w => run_neq_slice_nil_any w 139 146 none 0 0 0 0 Tryz.underlying139
  go_enter Tryz.func101, Tryz.ntmps101
  go_wp2
  go_ret
  exact ⟨rfl, by go_grown⟩

set_option maxRecDepth 100000 in
set_option maxHeartbeats 1000000 in
theorem Add_calls (l : List Int) (n : Int) (b base : Nat) (v : Value) (w : World) (hb : w.heap[b]? = some (.cells #[v, .slice none 0 0, .int .i64 l.length] 141 (0, 0)))
    (hO : w.ownsRow base 3 1 v l.length (ints l)) (hs : l.Pairwise (· < ·)) (hl : l.length < 16) (hn : 0 ≤ n ∧ n < 1048576) (hbase : base ≤ w.heap.size) :
    Calls Tryz.prog 82 #[.pointer (some ⟨b, 0, none⟩), .int .i64 n] w fun e w' => ∃ v', e = .returned (.bool (!l.contains n)) ∧ w'.heap[b]? = some (.cells #[v', .slice none 0 0, .int .i64 (ins n l).length] 141 (0, 0)) ∧
      w'.ownsRow base 3 1 v' (ins n l).length (ints (ins n l)) ∧ Mv (fun k => k = b ∨ v.ownBlock = some k) w w' ∧ (v'.ownBlock = v.ownBlock ∨ ∃ g, v'.ownBlock = some g ∧ w.heap.size ≤ g) := by
  obtain ⟨A, c, rfl⟩ := own_slice hO
  have HO := As.mk hO
  have HI := As.mk (ins_sorted n l hs)
  have HS : As (l.Pairwise (· ≤ ·)) := ⟨hs.imp (fun h => Int.le_of_lt h)⟩
  have HB := As.mk hb
  have HBS := As.mk hbase
  obtain ⟨h0, h1, h2, h3⟩ := set3 hb
  clear hb hO hs hbase
  obtain ⟨n0, n1⟩ := hn
  have n0b : decide (n < 0) = false := decide_eq_false (by omega)
  have n1b : decide (1048576 ≤ n) = false := decide_eq_false (by omega)
  have hq := eql_ptr122
  go_enter Tryz.func82, Tryz.ntmps82
  have HMANY := As.mk (fun w1 (h : w1.heap[b]? = w.heap[b]?) => Many_calls b _ _ w1 (h.trans HB.out))
  cases hct : l.contains n with
  | true =>
    have HCT := As.mk hct
    rw [hct] at HI
    clear hct
    go_wp2_with (first
      | (go_at_call 101; refine (HMANY.out _ rfl).mono ?_; rintro e w1 ⟨rfl, hb1⟩; have k0 := cell_below hb1 h0)
      | (go_at_call 80; refine (Search_calls l n _ _ _ (Rd.below (own_rd HO.out) hb1) (by omega) HS.out).mono ?_; rw [HCT.out]; rintro e w2 ⟨rfl, hb2⟩))
    go_ret
    have hbb : Below w.heap.size w w2 := below_seq hb1 hb2
    have hi : ins n l = l := HI.out
    rw [hi]
    exact ⟨_, rfl, (hbb.block b (cell_lt h0)).trans HB.out, own_below HO.out hbb, Mv.of_self hbb _, Or.inl rfl⟩
  | false =>
    have HCT := As.mk hct
    rw [hct] at HI
    have HLE : As (l.countP (· < n) ≤ l.length) := ⟨List.countP_le_length⟩
    clear hct
    have h16 : ((l.length : Int) == 16) = false := beq_eq_false_iff_ne.2 (by omega)
    go_wp2_with (first
      | (go_at_call 101; refine (HMANY.out _ rfl).mono ?_; rintro e w1 ⟨rfl, hb1⟩; have k0 := cell_below hb1 h0)
      | (go_at_call 80; refine (Search_calls l n _ _ _ (Rd.below (own_rd HO.out) hb1) (by omega) HS.out).mono ?_; rw [HCT.out]; rintro e w2 ⟨rfl, hb2⟩; have j0 := cell_below hb2 k0; have j2 := cell_below hb2 (cell_below hb1 h2); have jb := (hb2.block b (cell_lt k0)).trans ((hb1.block b (cell_lt h0)).trans HB.out); have HO2 := As.mk (own_below (own_below HO.out hb1) hb2); have hsz := below_seq hb1 hb2))
    have hnb : some b ≠ (Value.slice A l.length c).ownBlock := fun e => by
      obtain ⟨cs, hcs⟩ := own_typed HO2.out b e.symm
      rw [jb] at hcs
      simp at hcs
    have HBX : As ((w2.alloc (.cells #[.int .i64 n] 3)).heap[b]? = some (.cells #[Value.slice A l.length c, .slice none 0 0, .int .i64 l.length] 141 (0, 0))) := ⟨(Below.heap_alloc _ _ b (cell_lt j0)).trans jb⟩
    have HO3 := As.mk (HO2.out.alloc (.cells #[.int .i64 n] 3))
    have HNB := As.mk hnb
    have HSZ := As.mk hsz
    have HVB : As ((w2.alloc (.cells #[.int .i64 n] 3)).heap[w2.heap.size]? = some (.cells #[.int .i64 n] 3 (0, 0))) := ⟨heap_alloc_new _ _⟩
    have HNE : As (some w2.heap.size ≠ (Value.slice A l.length c).ownBlock) := ⟨fun e => by have := (own_lt HO2.out _ e.symm).2; omega⟩
    have HBZ : As (base ≤ (w2.alloc (.cells #[.int .i64 n] 3)).heap.size) := ⟨by have := HBS.out; have := hsz.size; simp; omega⟩
    clear hnb jb hsz k0 h0 h2 hb1 hb2 j0 j2
    go_at_call 81
    refine (Insert_calls l (l.countP (· < n)) n base w2.heap.size _ _ HO3.out HLE.out (by omega) HVB.out HNE.out HBZ.out).mono ?_
    rintro e w4 ⟨v4, rfl, ho4, hg4, ha4⟩
    obtain ⟨A4, c4, rfl⟩ := own_slice ho4
    have HO4 := As.mk ho4
    clear ho4
    have hb4 : w4.heap[b]? = some (.cells #[Value.slice A l.length c, .slice none 0 0, .int .i64 l.length] 141 (0, 0)) := (hg4.block b (Array.getElem?_eq_some_iff.1 HBX.out).1 HNB.out).trans HBX.out
    obtain ⟨m0, m1, m2, m3⟩ := set3 hb4
    go_wp2
    go_ret
    have hi : ins n l = putAt l (l.countP (· < n)) n := HI.out
    have hil : (putAt l (l.countP (· < n)) n).length = l.length + 1 := putAt_len _ _ _ HLE.out
    have hp0 := set3_put0 hb4 (.slice A4 (l.length + 1) c4)
    have hp2 := set3_put2 hp0 (.int .i64 (l.length + 1))
    rw [hi, hil]
    have hne4 : (Value.slice A4 (l.length + 1) c4).ownBlock ≠ some b := fun e => by
      obtain ⟨cs, hcs⟩ := own_typed HO4.out b e
      rw [hb4] at hcs
      simp at hcs
    refine ⟨_, rfl, hp2, ?_, ?_, ?_⟩
    · refine own_move HO4.out (fun k hk _ => ?_)
      have hkb : k ≠ b := fun e => hne4 (by rw [hk, e])
      rw [Below.heap_setCell _ _ _ k hkb, Below.heap_setCell _ _ _ k hkb]
    · refine Mv.trans (S' := fun k => k = b ∨ (Value.slice A l.length c).ownBlock = some k) (w1 := w2.alloc (.cells #[.int .i64 n] 3)) (Mv.of_self ?_ _) ?_ (fun k _ h => h)
      · exact below_seq HSZ.out (by go_grown)
      · refine Mv.trans (S' := fun k => k = b ∨ (Value.slice A l.length c).ownBlock = some k) ((Mv.of_grown hg4).mono (fun k _ h => Or.inr h)) ?_ (fun k _ h => h)
        exact Mv.trans (S' := fun k => k = b ∨ (Value.slice A l.length c).ownBlock = some k) ((Mv.setCell w4 ⟨b, 0, none⟩ _).mono (fun k _ h => Or.inl h)) ((Mv.setCell _ ⟨b, 2, none⟩ _).mono (fun k _ h => Or.inl h)) (fun k _ h => h)
    · rcases ha4 with h | h
      · exact Or.inl h
      · exact Or.inr ⟨_, h, by have := (HSZ.out).size; simp; omega⟩

end Go.Proofs.YtalnfhipggbdlaaGreatDoor
