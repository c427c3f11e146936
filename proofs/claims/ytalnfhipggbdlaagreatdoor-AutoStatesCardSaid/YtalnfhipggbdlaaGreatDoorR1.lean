/- The references' small functions: Has, Same, Texts, number, Put, Find. -/
import Derived.Test.YtalnfhipggbdlaaGreatDoorProg
import Derived.Test.YtalnfhipggbdlaaGreatDoorBs
import Derived.Deep.Slices
namespace Go.Proofs.YtalnfhipggbdlaaGreatDoor
open Go.RowKit
set_option linter.unusedVariables false
set_option linter.unusedSimpArgs false

theorem info3 : (Tryz.prog.info? 3).map (fun i => (i.zero, i.size, i.bytes)) = some (some (.int .i64 0), 1, 8) := by kernel_rfl
theorem info9 : (Tryz.prog.info? 9).map (fun i => (i.zero, i.size, i.bytes)) = some (some (.string ⟨#[]⟩), 1, 16) := by kernel_rfl

theorem any_step {α : Type} (l : List α) (p : α → Bool) (k : Nat) (hk : k < l.length) (z : α) (h : (l.take k).any p = false) : (l.take (k + 1)).any p = p (l.getD k z) := by
  rw [List.take_succ_eq_append_getElem hk, List.any_append, h, getD_at l k z hk]; simp
theorem any_get {α : Type} (l : List α) (p : α → Bool) (k : Nat) (hk : k < l.length) (z : α) (h : p (l.getD k z) = true) : l.any p = true := by
  rw [getD_at l k z hk] at h; exact List.any_eq_true.2 ⟨_, List.getElem_mem hk, h⟩

def has (l : List Int) (n : Int) : Bool := l.any (fun x => x == n)

set_option maxHeartbeats 400000 in
theorem Has_calls (l : List Int) (n : Int) (v : Value) (ok : Nat → Prop) (w : World) (hl : RdI w ok v l) :
    Calls Tryz.prog 68 #[v, .int .i64 n] w fun e w' => e = .returned (.bool (has l n)) ∧ Below w.heap.size w w' := by
  obtain ⟨A, c, rfl, hc1, hc2⟩ := Rd.form hl
  have HL := As.mk hl
  clear hl
  go_enter Tryz.func68, Tryz.ntmps68
  go_wp2
  go_loopw [5] (fun v wr => ∃ k : Nat, k ≤ l.length ∧ v = .int .i64 k ∧ As ((l.take k).any (fun x => x == n) = false) ∧ Below w.heap.size w wr) (fun v _ => l.length - (intOf v).toNat)
  case atStart => exact ⟨0, by omega, rfl, ⟨by simp⟩, Below.refl _ _⟩
  case round =>
    obtain ⟨k, hk, rfl, hA, hb⟩ := hrel
    by_cases hlt : k < l.length
    · obtain ⟨ad, rfl, e0⟩ := RdI.at (Rd.below HL.out hb) k hlt
      have HS := As.mk (any_step l (fun x => x == n) k hlt 0 hA.out)
      have HG := As.mk (any_get l (fun x => x == n) k hlt 0)
      generalize l.getD k 0 = x at *
      by_cases hx : x = n
      · have hxb : (x == n) = true := beq_iff_eq.2 hx
        go_wp2
        go_ret
        exact ⟨ret_bool (HG.out hxb).symm, hb⟩
      · have hxb : (x == n) = false := beq_eq_false_iff_ne.2 hx
        go_wp2
        go_roundw
        case rel => exact ⟨k + 1, by omega, by go_num, ⟨by rw [HS.out]; exact hxb⟩, hb⟩
        case measure => simp [intOf]; omega
    · go_wp2
      go_ret
      exact ⟨ret_bool (by have := hA.out; rw [List.take_of_length_le (by omega)] at this; exact this.symm), hb⟩

theorem take_eq_step {α : Type} [DecidableEq α] (l m : List α) (k : Nat) (hl : k < l.length) (hm : k < m.length) (z : α) (h : l.take k = m.take k) (hx : l.getD k z = m.getD k z) : l.take (k + 1) = m.take (k + 1) := by
  rw [List.take_succ_eq_append_getElem hl, List.take_succ_eq_append_getElem hm, h, ← getD_at l k z hl, ← getD_at m k z hm, hx]
theorem get_eq {α : Type} (l m : List α) (k : Nat) (z : α) (h : l = m) : l.getD k z = m.getD k z := by rw [h]

set_option maxHeartbeats 400000 in
theorem Same_calls (l m : List Int) (v u : Value) (ok ok' : Nat → Prop) (w : World) (hl : RdI w ok v l) (hm : RdI w ok' u m) :
    Calls Tryz.prog 29 #[v, u] w fun e w' => e = .returned (.bool (decide (l = m))) ∧ Below w.heap.size w w' := by
  obtain ⟨A, c, rfl, hc1, hc2⟩ := Rd.form hl
  obtain ⟨A', c', rfl, hc1', hc2'⟩ := Rd.form hm
  have HL := As.mk hl
  have HM := As.mk hm
  clear hl hm
  by_cases hle : l.length = m.length
  · have e0 : ((l.length : Int) != (m.length : Int)) = false := by simp [hle]
    have HE := As.mk hle
    have hle1 : l.length ≤ m.length := by omega
    have hle2 : m.length ≤ l.length := by omega
    clear hle
    go_enter Tryz.func29, Tryz.ntmps29
    go_wp2
    go_loopw [5] (fun v wr => ∃ k : Nat, k ≤ l.length ∧ v = .int .i64 k ∧ As (l.take k = m.take k) ∧ Below w.heap.size w wr) (fun v _ => l.length - (intOf v).toNat)
    case atStart => exact ⟨0, by omega, rfl, ⟨by simp⟩, Below.refl _ _⟩
    case round =>
      obtain ⟨k, hk, rfl, hA, hb⟩ := hrel
      by_cases hlt : k < l.length
      · obtain ⟨ad, rfl, e1⟩ := RdI.at (Rd.below HL.out hb) k hlt
        obtain ⟨ad', rfl, e2⟩ := RdI.at (Rd.below HM.out hb) k (by omega)
        have HS := As.mk (take_eq_step l m k hlt (by omega) 0 hA.out)
        have HG := As.mk (get_eq l m k 0)
        have hlt2 : k < m.length := by omega
        generalize l.getD k 0 = x at *
        generalize m.getD k 0 = y at *
        by_cases hx : x = y
        · have hxb : (x != y) = false := bne_eq_false_iff_eq.2 hx
          go_wp2
          go_quiet (fail)
          go_wp2
          go_roundw
          case rel => exact ⟨k + 1, by omega, by go_num, ⟨HS.out hx⟩, below_drewN hb _⟩
          case measure => simp [intOf]; omega
        · have hxb : (x != y) = true := bne_iff_ne.2 hx
          go_wp2
          go_quiet (fail)
          go_wp2
          go_ret
          exact ⟨ret_bool (by symm; exact decide_eq_false (fun h => hx (HG.out h))), below_drewN hb _⟩
      · go_wp2
        go_ret
        exact ⟨ret_bool (by have := hA.out; rw [List.take_of_length_le (by omega), List.take_of_length_le (by omega)] at this; symm; exact decide_eq_true this), hb⟩
  · have e0 : ((l.length : Int) != (m.length : Int)) = true := by rw [bne_iff_ne]; omega
    go_enter Tryz.func29, Tryz.ntmps29
    go_wp2
    go_ret
    exact ⟨ret_bool (by symm; exact decide_eq_false (fun h => hle (by rw [h]))), Below.refl _ _⟩

set_option maxHeartbeats 400000 in
theorem Texts_calls (l m : List ByteArray) (v u : Value) (ok ok' : Nat → Prop) (w : World) (hl : RdS w ok v l) (hm : RdS w ok' u m) :
    Calls Tryz.prog 30 #[v, u] w fun e w' => e = .returned (.bool (decide (l = m))) ∧ Below w.heap.size w w' := by
  obtain ⟨A, c, rfl, hc1, hc2⟩ := Rd.form hl
  obtain ⟨A', c', rfl, hc1', hc2'⟩ := Rd.form hm
  have HL := As.mk hl
  have HM := As.mk hm
  clear hl hm
  by_cases hle : l.length = m.length
  · have e0 : ((l.length : Int) != (m.length : Int)) = false := by simp [hle]
    have HE := As.mk hle
    have hle1 : l.length ≤ m.length := by omega
    have hle2 : m.length ≤ l.length := by omega
    clear hle
    go_enter Tryz.func30, Tryz.ntmps30
    go_wp2
    go_loopw [5] (fun v wr => ∃ k : Nat, k ≤ l.length ∧ v = .int .i64 k ∧ As (l.take k = m.take k) ∧ Below w.heap.size w wr) (fun v _ => l.length - (intOf v).toNat)
    case atStart => exact ⟨0, by omega, rfl, ⟨by simp⟩, Below.refl _ _⟩
    case round =>
      obtain ⟨k, hk, rfl, hA, hb⟩ := hrel
      by_cases hlt : k < l.length
      · obtain ⟨ad, rfl, e1⟩ := RdS.at (Rd.below HL.out hb) k hlt
        obtain ⟨ad', rfl, e2⟩ := RdS.at (Rd.below HM.out hb) k (by omega)
        have HS := As.mk (take_eq_step l m k hlt (by omega) ByteArray.empty hA.out)
        have HG := As.mk (get_eq l m k ByteArray.empty)
        have hlt2 : k < m.length := by omega
        generalize l.getD k ByteArray.empty = x at *
        generalize m.getD k ByteArray.empty = y at *
        by_cases hx : x = y
        · have hxb : (x.toList != y.toList) = false := by simp [hx]
          go_wp2
          go_quiet (fail)
          go_wp2
          go_roundw
          case rel => exact ⟨k + 1, by omega, by go_num, ⟨HS.out hx⟩, below_drewN hb _⟩
          case measure => simp [intOf]; omega
        · have hxb : (x.toList == y.toList) = false := by
            rw [beq_eq_false_iff_ne, ne_eq, ByteArray.toList_eq, ByteArray.toList_eq]
            exact fun h => hx (by obtain ⟨⟨a⟩⟩ := x; obtain ⟨⟨b⟩⟩ := y; simp at h; rw [h])
          go_wp2
          go_quiet (fail)
          go_wp2
          go_ret
          exact ⟨ret_bool (by symm; exact decide_eq_false (fun h => hx (HG.out h))), below_drewN hb _⟩
      · go_wp2
        go_ret
        exact ⟨ret_bool (by have := hA.out; rw [List.take_of_length_le (by omega), List.take_of_length_le (by omega)] at this; symm; exact decide_eq_true this), hb⟩
  · have e0 : ((l.length : Int) != (m.length : Int)) = true := by rw [bne_iff_ne]; omega
    go_enter Tryz.func30, Tryz.ntmps30
    go_wp2
    go_ret
    exact ⟨ret_bool (by symm; exact decide_eq_false (fun h => hle (by rw [h]))), Below.refl _ _⟩

/-- Into a rising list, whatever it is (ref22.number). -/
def ins (n : Int) : List Int → List Int
  | [] => [n]
  | x :: xs => if x < n then x :: ins n xs else if x = n then x :: xs else n :: x :: xs
theorem ins_take (n : Int) : ∀ (l : List Int) (k : Nat), k ≤ l.length → (l.take k).all (fun x => decide (x < n)) = true → ins n l = l.take k ++ ins n (l.drop k)
  | l, 0, _, _ => by simp
  | [], k + 1, h, _ => by simp at h
  | x :: xs, k + 1, h, ha => by
    simp only [List.take_succ_cons, List.all_cons, Bool.and_eq_true, decide_eq_true_eq] at ha
    simp only [List.take_succ_cons, List.drop_succ_cons, List.cons_append]
    rw [← ins_take n xs k (by simpa using h) ha.2, ins, if_pos ha.1]
theorem ins_len (n : Int) : ∀ l : List Int, (ins n l).length ≤ l.length + 1
  | [] => by simp [ins]
  | x :: xs => by
    have := ins_len n xs
    unfold ins
    split
    · simp; omega
    · split <;> simp
theorem ins_end (n : Int) (l : List Int) (h : l.all (fun x => decide (x < n)) = true) : ins n l = l ++ [n] := by
  have := ins_take n l l.length (Nat.le_refl _) (by rw [List.take_length]; exact h)
  rw [List.take_length, List.drop_length] at this
  exact this
theorem ins_eq (n : Int) (l : List Int) (k : Nat) (hk : k < l.length) (h : (l.take k).all (fun x => decide (x < n)) = true) (he : l.getD k 0 = n) : ins n l = l := by
  rw [ins_take n l k (by omega) h, List.drop_eq_getElem_cons hk, ← getD_at l k 0 hk, he, ins, if_neg (by omega), if_pos rfl, ← he, getD_at l k 0 hk, ← List.drop_eq_getElem_cons hk, List.take_append_drop]
theorem ins_mid (n : Int) (l : List Int) (k : Nat) (hk : k < l.length) (h : (l.take k).all (fun x => decide (x < n)) = true) (h1 : ¬ l.getD k 0 < n) (h2 : ¬ l.getD k 0 = n) : ins n l = l.take k ++ [n] ++ l.drop k := by
  rw [ins_take n l k (by omega) h, List.drop_eq_getElem_cons hk, ← getD_at l k 0 hk, ins, if_neg h1, if_neg h2]; simp

theorem rd_drop {w : World} {ok : Nat → Prop} {ad : Addr} {n c : Nat} {cs : List Value} {k : Nat} (h : Rd w ok (.slice (some ad) n c) n cs) (hl : cs.length = n) (hk : k ≤ n) : Rd w ok (.slice (some (ad.add k)) (n - k) (c - k)) (n - k) (cs.drop k) := by
  obtain ⟨A', c', he, h1, h2, h3⟩ := h
  injection he with he1 he2 he3
  subst he1 he3
  refine ⟨_, _, rfl, by omega, by omega, fun hp => ?_⟩
  obtain ⟨ad', he, hok, hc⟩ := h3 (by simp at hp; omega)
  injection he with he
  subst he
  refine ⟨_, rfl, by rw [add_block]; exact hok, fun j u hu => ?_⟩
  rw [List.getElem?_drop] at hu
  have := hc _ _ hu
  rwa [show (ad.add k).add j = ad.add (k + j) from Go.Deep.add_add ad k j]

theorem ints_drop (l : List Int) (k : Nat) : ints (l.drop k) = (ints l).drop k := by simp [ints]
theorem ints_take (l : List Int) (k : Nat) : ints (l.take k) = (ints l).take k := by simp [ints]
set_option maxHeartbeats 1000000 in
theorem number_calls (l : List Int) (n : Int) (v : Value) (ok : Nat → Prop) (w : World) (hl : RdI w ok v l) (hb1 : l.length < 1000000) :
    Calls Tryz.prog 69 #[v, .int .i64 n] w fun e w' => ∃ v', e = .returned v' ∧ RdI w' (fun k => ok k ∨ w.heap.size ≤ k) v' (ins n l) ∧ Below w.heap.size w w' := by
  obtain ⟨A, c, rfl, hc1, hc2⟩ := Rd.form hl
  have HL := As.mk hl
  clear hl
  go_enter Tryz.func69, Tryz.ntmps69
  go_wp2
  go_loopw [5, 6] (fun o v wr => ∃ k : Nat, k ≤ l.length ∧ v = .int .i64 k ∧ As ((l.take k).all (fun x => decide (x < n)) = true) ∧ As (wr.ownsRow w.heap.size 3 1 o k (ints (l.take k))) ∧ Below w.heap.size w wr) (fun _ v _ => l.length - (intOf v).toNat)
  case atStart => exact ⟨0, by omega, rfl, ⟨by simp⟩, ⟨own_nil _ _ _ _⟩, Below.refl _ _⟩
  case round =>
    obtain ⟨k, hk, rfl, hA, hO, hb⟩ := hrel
    by_cases hlt : k < l.length
    · obtain ⟨ad, rfl, e0⟩ := RdI.at (Rd.below HL.out hb) k hlt
      have HS := As.mk (all_step l (fun x => decide (x < n)) k hlt 0 hA.out)
      have HE := As.mk (ins_eq n l k hlt hA.out)
      have HM := As.mk (ins_mid n l k hlt hA.out)
      have HT : As (ints (l.take (k + 1)) = ints (l.take k) ++ [.int .i64 (l.getD k 0)]) := ⟨by rw [List.take_succ_eq_append_getElem hlt, ints_append, ← getD_at l k 0 hlt]; rfl⟩
      generalize l.getD k 0 = x at *
      by_cases hx : x < n
      · go_wp2_with (at_builtin; refine wp_append (hO.out.alloc _) (rd_box _ _ _) Tryz.underlying39 info3 rfl (by decide) (by decide) rfl rfl rfl rfl (ints_one [x]) rfl ?_ ?_ ?_)
        · have := hb.size; omega
        · omega
        intro v1 w1 hown hg hat
        have HO' := As.mk hown
        clear hown
        go_wp2
        go_roundw
        case rel => exact ⟨k + 1, by omega, by go_num, ⟨by rw [HS.out]; exact decide_eq_true hx⟩, ⟨by rw [HT.out]; exact HO'.out⟩, (hb.alloc hb.size _).grown hg (by simp; have := hb.size; omega) (fun q hq => (own_lt hO.out q hq).1)⟩
        case measure => simp [intOf]; omega
      · by_cases hy : x = n
        · have hyb : (x == n) = true := beq_iff_eq.2 hy
          go_wp2
          go_ret
          exact ⟨_, rfl, by rw [HE.out hy]; exact (Rd.below HL.out hb).mono (fun _ h _ => Or.inl h), hb⟩
        · have hyb : (x == n) = false := beq_eq_false_iff_ne.2 hy
          go_wp2_with (at_builtin; refine wp_append (hO.out.alloc _) (rd_box _ _ _) Tryz.underlying39 info3 rfl (by decide) (by decide) rfl rfl rfl rfl (ints_one [n]) rfl ?_ ?_ ?_)
          · have := hb.size; omega
          · omega
          intro v1 w1 hown hg hat
          have HO' := As.mk hown
          clear hown
          have hb1' : Below w.heap.size w w1 := (hb.alloc hb.size _).grown hg (by simp; have := hb.size; omega) (fun q hq => (own_lt hO.out q hq).1)
          have hor : Rd w1 ok (.slice (some (ad.add k)) (l.length - k) (c - k)) (l.length - k) ((ints l).drop k) := (rd_drop HL.out (ints_length l) (by omega)).step (fun q _ hq => hb1'.block q hq)
          have HR' := As.mk hor
          clear hor
          go_wp2_with (at_builtin; refine wp_append HO'.out HR'.out Tryz.underlying39 info3 rfl (by decide) (by decide) rfl rfl rfl rfl ?_ ?_ ?_ ?_ ?_)
          · rw [← ints_drop]; exact ints_one _
          · simp [ints]
          · exact hb1'.size
          · omega
          intro v2 w2 hown2 hg2 hat2
          have hb2 : Below w.heap.size w w2 := hb1'.grown hg2 hb1'.size (fun q hq => (own_lt HO'.out q hq).1)
          have hfin : RdI w2 (fun q => ok q ∨ w.heap.size ≤ q) v2 (ins n l) := by
            have hr := (own_rd hown2).mono (ok' := fun q => ok q ∨ w.heap.size ≤ q) (fun q hq _ => Or.inr hq.2)
            have e1 : ints (l.take k) ++ .int .i64 n :: (ints l).drop k = ints (ins n l) := by rw [HM.out hx hy, ints_append, ints_append, ints_drop]; simp [ints]
            have e2 : k + 1 + (l.length - k) = (ins n l).length := by rw [HM.out hx hy]; simp; omega
            rw [e1, e2] at hr
            exact hr
          have HF := As.mk hfin
          clear hfin hown2
          go_wp2
          go_ret
          exact ⟨_, rfl, HF.out, hb2⟩
    · obtain rfl : k = l.length := by omega
      have HI := As.mk (ins_end n l (by have := hA.out; rwa [List.take_length] at this))
      have HO0 : As (wr.ownsRow w.heap.size 3 1 u5 l.length (ints l)) := ⟨by have := hO.out; rwa [List.take_length] at this⟩
      clear hA hO
      have hs1 : w.heap.size ≤ (wr.alloc (.cells #[.int .i64 n] 3)).heap.size := by simp; have := hb.size; omega
      have HS1 := As.mk hs1
      clear hs1
      go_wp2_with (at_builtin; refine wp_append (HO0.out.alloc _) (rd_box _ _ _) Tryz.underlying39 info3 rfl (by decide) (by decide) rfl rfl rfl rfl (ints_one [n]) rfl HS1.out ?_ ?_)
      · omega
      intro v1 w1 hown hg hat
      have HO' := As.mk hown
      clear hown
      have hb1' : Below w.heap.size w w1 := (hb.alloc hb.size _).grown hg HS1.out (fun q hq => (own_lt HO0.out q hq).1)
      have hs2 : (l.length + 1 + 0) * 8 ≤ 140737488355328 := by omega
      have HS2 := As.mk hs2
      clear hs2
      go_wp2_with (at_builtin; refine wp_append HO'.out (Rd.empty _ (fun _ => True) _ _) Tryz.underlying39 info3 rfl (by decide) (by decide) rfl rfl rfl rfl (by simp) (by simp) hb1'.size HS2.out ?_)
      all_goals
        intro v2 w2 hown2 hg2 hat2
        have hb2 : Below w.heap.size w w2 := hb1'.grown hg2 hb1'.size (fun q hq => (own_lt HO'.out q hq).1)
        have hfin : RdI w2 (fun q => ok q ∨ w.heap.size ≤ q) v2 (ins n l) := by
          have hr := (own_rd hown2).mono (ok' := fun q => ok q ∨ w.heap.size ≤ q) (fun q hq _ => Or.inr hq.2)
          have e1 : ints l ++ [.int .i64 n] = ints (ins n l) := by rw [HI.out, ints_append]; rfl
          have e2 : l.length + 1 = (ins n l).length := by rw [HI.out]; simp
          try simp only [List.append_nil, Nat.add_zero] at hr
          rw [e1, e2] at hr
          exact hr
        have HF := As.mk hfin
        clear hfin hown2
        go_wp2
        go_ret
        exact ⟨_, rfl, HF.out, hb2⟩
end Go.Proofs.YtalnfhipggbdlaaGreatDoor
