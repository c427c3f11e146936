/- The reference graph: Types; Find. -/
import Derived.Test.YtalnfhipggbdlaaGreatDoorR2
namespace Go.Proofs.YtalnfhipggbdlaaGreatDoor
open Go.RowKit
set_option linter.unusedVariables false
set_option linter.unusedSimpArgs false

def ltS (a b : ByteArray) : Bool := Op.bytesLess a.toList b.toList
def insS (t : ByteArray) : List ByteArray → List ByteArray
  | [] => [t]
  | x :: xs => if ltS x t = true then x :: insS t xs else if x = t then x :: xs else t :: x :: xs
theorem insS_take (n : ByteArray) : ∀ (l : List ByteArray) (k : Nat), k ≤ l.length → (l.take k).all (fun x => ltS x n) = true → insS n l = l.take k ++ insS n (l.drop k)
  | l, 0, _, _ => by simp
  | [], k + 1, h, _ => by simp at h
  | x :: xs, k + 1, h, ha => by
    simp only [List.take_succ_cons, List.all_cons, Bool.and_eq_true] at ha
    simp only [List.take_succ_cons, List.drop_succ_cons, List.cons_append]
    rw [← insS_take n xs k (by simpa using h) ha.2, insS, if_pos ha.1]
theorem insS_len (n : ByteArray) : ∀ l : List ByteArray, (insS n l).length ≤ l.length + 1
  | [] => by simp [insS]
  | x :: xs => by
    have := insS_len n xs
    unfold insS
    split
    · simp; omega
    · split <;> simp
theorem insS_end (n : ByteArray) (l : List ByteArray) (h : l.all (fun x => ltS x n) = true) : insS n l = l ++ [n] := by
  have := insS_take n l l.length (Nat.le_refl _) (by rw [List.take_length]; exact h)
  rw [List.take_length, List.drop_length] at this
  exact this
theorem insS_eq (n : ByteArray) (l : List ByteArray) (k : Nat) (hk : k < l.length) (h : (l.take k).all (fun x => ltS x n) = true) (h1 : ltS (l.getD k ByteArray.empty) n = false) (he : l.getD k ByteArray.empty = n) : insS n l = l := by
  rw [insS_take n l k (by omega) h, List.drop_eq_getElem_cons hk, ← getD_at l k ByteArray.empty hk, insS, if_neg (by rw [h1]; simp), if_pos he, getD_at l k ByteArray.empty hk, ← List.drop_eq_getElem_cons hk, List.take_append_drop]
theorem insS_mid (n : ByteArray) (l : List ByteArray) (k : Nat) (hk : k < l.length) (h : (l.take k).all (fun x => ltS x n) = true) (h1 : ltS (l.getD k ByteArray.empty) n = false) (h2 : ¬ l.getD k ByteArray.empty = n) : insS n l = l.take k ++ [n] ++ l.drop k := by
  rw [insS_take n l k (by omega) h, List.drop_eq_getElem_cons hk, ← getD_at l k ByteArray.empty hk, insS, if_neg (by rw [h1]; simp), if_neg h2]; simp
theorem strs_append (l m : List ByteArray) : strs (l ++ m) = strs l ++ strs m := by simp [strs]
theorem strs_drop (l : List ByteArray) (k : Nat) : strs (l.drop k) = (strs l).drop k := by simp [strs]
theorem strs_take (l : List ByteArray) (k : Nat) : strs (l.take k) = (strs l).take k := by simp [strs]
theorem rd_take {w : World} {ok : Nat → Prop} {A : Option Addr} {n c : Nat} {cs : List Value} {k : Nat} (h : Rd w ok (.slice A n c) n cs) (hk : k ≤ n) : Rd w ok (.slice A k c) k (cs.take k) := by
  obtain ⟨A', c', he, h1, h2, h3⟩ := h
  injection he with he1 he2 he3
  subst he1 he3
  refine ⟨_, _, rfl, by omega, by omega, fun hp => ?_⟩
  obtain ⟨ad', he, hok, hc⟩ := h3 (by simp at hp; omega)
  refine ⟨_, he, hok, fun j u hu => ?_⟩
  rw [List.getElem?_take] at hu
  split at hu
  · exact hc _ _ hu
  · cases hu

def typesR (T : List ByteArray) (os : List Int) : List ByteArray := os.foldl (fun out o => if 0 ≤ o ∧ o < (T.length : Int) then insS (T.getD o.toNat ByteArray.empty) out else out) []
theorem typesR_len (T : List ByteArray) (os : List Int) (k : Nat) (hk : k ≤ os.length) : (typesR T (os.take k)).length ≤ k := by
  induction k with
  | zero => simp [typesR]
  | succ k ih =>
    unfold typesR at ih ⊢
    rw [foldl_step _ os k (by omega) 0]
    split
    · have := insS_len (T.getD (os.getD k 0).toNat ByteArray.empty) ((os.take k).foldl (fun out o => if 0 ≤ o ∧ o < (T.length : Int) then insS (T.getD o.toNat ByteArray.empty) out else out) [])
      have := ih (by omega)
      omega
    · have := ih (by omega)
      omega

set_option maxHeartbeats 2000000 in
theorem TypesR_calls (T : List ByteArray) (E : List Edge) (os : List Int) (tv ev ov : Value) (ok ok' : Nat → Prop) (w : World) (hT : RdS w ok tv T) (hE : RdE w ok ev E) (hO : RdI w ok' ov os) (hl : os.length < 1000000) :
    Calls Tryz.prog 31 #[.agg #[tv, ev], ov] w fun e w' => ∃ v', e = .returned v' ∧ RdS w' (fun k => w.heap.size ≤ k) v' (typesR T os) ∧ Below w.heap.size w w' := by
  obtain ⟨TA, tc, rfl, _, _⟩ := Rd.form hT
  obtain ⟨EA, ec, rfl, _, _⟩ := Rd.form hE
  obtain ⟨OA, oc, rfl, _, _⟩ := Rd.form hO
  have HT := As.mk hT
  have HO := As.mk hO
  clear hE hT hO
  go_enter Tryz.func31, Tryz.ntmps31
  go_wp2
  go_loopw [5, 6] (fun o v wr => ∃ k : Nat, k ≤ os.length ∧ v = .int .i64 k ∧ As (RdS wr (fun q => w.heap.size ≤ q) o (typesR T (os.take k))) ∧ wr.cell? ⟨w.heap.size, 0, none⟩ = some (.slice TA T.length tc) ∧ wr.cell? ⟨w.heap.size, 1, none⟩ = some (.slice EA E.length ec) ∧ Below w.heap.size w wr ∧ w.heap.size < wr.heap.size) (fun _ v _ => os.length - (intOf v).toNat)
  case atStart => exact ⟨0, by omega, rfl, ⟨Rd.nil _ _⟩, by simp, by simp, by go_grown, by simp⟩
  case round =>
    obtain ⟨k, hk, rfl, hR, hc0, hc1, hb, hsz⟩ := hrel
    by_cases hlt : k < os.length
    · obtain ⟨oad, rfl, e0⟩ := RdI.at (Rd.below HO.out hb) k hlt
      have HS : As (typesR T (os.take (k + 1)) = if 0 ≤ (os.getD k 0) ∧ (os.getD k 0) < (T.length : Int) then insS (T.getD (os.getD k 0).toNat ByteArray.empty) (typesR T (os.take k)) else typesR T (os.take k)) := ⟨foldl_step _ os k hlt 0 []⟩
      have HL := As.mk (typesR_len T os k hk)
      generalize typesR T (os.take k) = out at *
      generalize os.getD k 0 = x at *
      by_cases c1 : x < 0
      · have c1b : decide (x < 0) = true := decide_eq_true c1
        go_wp2
        go_quiet (fail)
        go_wp2
        go_roundw
        case rel => exact ⟨k + 1, by omega, by go_num, ⟨by rw [HS.out, if_neg (by omega)]; exact hR.out⟩, hc0, hc1, below_drewN hb _, hsz⟩
        case measure => simp [intOf]; omega
      have c1b : decide (x < 0) = false := decide_eq_false c1
      by_cases c2 : x < (T.length : Int)
      · have c2b : decide ((T.length : Int) ≤ x) = false := decide_eq_false (by omega)
        obtain ⟨tad, rfl, t0⟩ := RdS.at (Rd.below HT.out hb) x.toNat (by omega)
        have c0 : 0 ≤ x := by omega
        generalize T.getD x.toNat ByteArray.empty = t at *
        obtain ⟨A5, d5, rfl, h5, h5'⟩ := Rd.form hR.out
        go_wp2
        go_quiet (fail)
        generalize nq = n1 at *
        go_wp2
        go_quiet (fail)
        generalize nq = n2 at *
        go_wp2
        have hbq : Below wr.heap.size wr ((wr.drewN n1).drewN n2) := below_drewN (below_drewN (Below.refl _ _) _) _
        have HRQ := As.mk (Rd.below hR.out hbq)
        have HBQ := As.mk (hb.trans (hbq.mono hb.size))
        have q0 := cell_below hbq hc0
        have q1 := cell_below hbq hc1
        have qs := Nat.lt_of_lt_of_le hsz hbq.size
        clear hR hb hc0 hc1 hsz e0 t0 hbq HT HO
        generalize (wr.drewN n1).drewN n2 = wq at *
        clear n1 n2
        go_loop [8] (fun v => ∃ j : Nat, j ≤ out.length ∧ v = .int .i64 j ∧ As ((out.take j).all (fun x => ltS x t) = true)) (fun v => out.length - (intOf v).toNat)
        case atStart => exact ⟨0, by omega, rfl, ⟨by simp⟩⟩
        case round =>
          obtain ⟨j, hj, rfl, hA⟩ := hrel
          by_cases hjl : j < out.length
          · obtain ⟨ad5, rfl, f0⟩ := RdS.at HRQ.out j hjl
            have HAS := As.mk (all_step out (fun x => ltS x t) j hjl ByteArray.empty hA.out)
            have HEQ := As.mk (insS_eq t out j hjl hA.out)
            have HMI := As.mk (insS_mid t out j hjl hA.out)
            generalize out.getD j ByteArray.empty = y at *
            cases hyl : ltS y t with
            | true =>
              have hyl' : Op.bytesLess y.toList t.toList = true := hyl
              have HY := As.mk hyl
              clear hyl
              go_wp2
              go_round
              case rel => exact ⟨j + 1, by omega, by go_num, ⟨by rw [HAS.out]; exact HY.out⟩⟩
              case measure => simp [intOf]; omega
            | false =>
              have hyl' : Op.bytesLess y.toList t.toList = false := hyl
              have HY := As.mk hyl
              clear hyl
              by_cases hyt : y = t
              · have hyb : (y.toList == t.toList) = true := by simp [hyt]
                have HYT := As.mk hyt
                clear hyt
                go_wp2
                go_roundw
                case rel => exact ⟨k + 1, by omega, by go_num, ⟨by rw [HS.out, if_pos ⟨c0, c2⟩, HEQ.out HY.out HYT.out]; exact HRQ.out⟩, q0, q1, HBQ.out, qs⟩
                case measure => simp [intOf]; omega
              · have hyb : (y.toList == t.toList) = false := by
                  rw [beq_eq_false_iff_ne, ne_eq, ByteArray.toList_eq, ByteArray.toList_eq]
                  exact fun h => hyt (by obtain ⟨⟨a⟩⟩ := y; obtain ⟨⟨b⟩⟩ := t; simp at h; rw [h])
                have HYT := As.mk hyt
                clear hyt
                have HT1 := As.mk (rd_take HRQ.out (k := j) (by omega))
                have HT2 := As.mk (rd_drop HRQ.out (k := j) (by rw [strs_length]) (by omega))
                have o1 : As (∀ y ∈ (strs out).take j, y.oneCell' = true) := ⟨by rw [← strs_take]; exact strs_one _⟩
                have o2 : As (∀ y ∈ (strs out).drop j, y.oneCell' = true) := ⟨by rw [← strs_drop]; exact strs_one _⟩
                have l1 : As (((strs out).take j).length = j * 1) := ⟨by simp [strs]; omega⟩
                have l2 : As (((strs out).drop j).length = (out.length - j) * 1) := ⟨by simp [strs]⟩
                have s1 := As.mk (show (0 + j) * 16 ≤ 140737488355328 from by have := HL.out; omega)
                have s2 := As.mk (show (j + 1) * 16 ≤ 140737488355328 from by have := HL.out; omega)
                have s3 := As.mk (show (j + 1 + (out.length - j)) * 16 ≤ 140737488355328 from by have := HL.out; omega)
                have HFI : As (strs (insS t out) = (strs out).take j ++ .string t :: (strs out).drop j ∧ (insS t out).length = j + 1 + (out.length - j)) := ⟨by rw [HMI.out HY.out HYT.out, strs_append, strs_append, strs_take, strs_drop]; constructor; simp [strs]; simp; omega⟩
                go_wp2_with (at_builtin; refine wp_append (own_nil _ wq.heap.size 9 1) HT1.out Tryz.underlying22 info9 rfl (by decide) (by decide) rfl rfl rfl rfl o1.out l1.out (Nat.le_refl _) s1.out ?_)
                intro v1 w1 ho1 hg1 _
                have HO1 := As.mk ho1
                have HB1 := As.mk ((Below.refl wq.heap.size wq).grown hg1 (Nat.le_refl _) (fun q hq => by simp [Value.ownBlock] at hq))
                have z1 : As (wq.heap.size ≤ (w1.alloc (.cells #[.string t] 9)).heap.size) := ⟨by simp; have := (HB1.out).size; omega⟩
                clear ho1
                go_wp2_with (at_builtin; refine wp_append ((HO1.out).alloc _) (rd_box _ _ _) Tryz.underlying22 info9 rfl (by decide) (by decide) rfl rfl rfl rfl (strs_one [t]) rfl z1.out s2.out ?_)
                intro v2 w2 ho2 hg2 _
                have HO2 := As.mk ho2
                have HB2 := As.mk (((HB1.out).alloc (HB1.out).size _).grown hg2 z1.out (fun q hq => (own_lt HO1.out q hq).1))
                have HT3 := As.mk ((HT2.out).below HB2.out)
                clear ho2
                go_wp2_with (at_builtin; refine wp_append HO2.out HT3.out Tryz.underlying22 info9 rfl (by decide) (by decide) rfl rfl rfl rfl o2.out l2.out (HB2.out).size s3.out ?_)
                intro v3 w3 ho3 hg3 _
                have HB3 := As.mk ((HB2.out).grown hg3 (HB2.out).size (fun q hq => (own_lt HO2.out q hq).1))
                have HF : As (RdS w3 (fun q => w.heap.size ≤ q) v3 (insS t out)) := ⟨by
                  have hr := (own_rd ho3).mono (ok' := fun q => w.heap.size ≤ q) (fun q hq _ => Nat.le_trans (HBQ.out).size hq.2)
                  unfold RdS
                  rw [HFI.out.1, HFI.out.2]
                  simpa using hr⟩
                have r0 := cell_below HB3.out q0
                have r1 := cell_below HB3.out q1
                clear ho3
                go_wp2
                go_roundw
                case rel => exact ⟨k + 1, by omega, by go_num, ⟨by rw [HS.out, if_pos ⟨c0, c2⟩]; exact HF.out⟩, r0, r1, (HBQ.out).trans ((HB3.out).mono (HBQ.out).size), Nat.lt_of_lt_of_le qs (HB3.out).size⟩
                case measure => simp [intOf]; omega
          · obtain rfl : j = out.length := by omega
            have HI := As.mk (insS_end t out (by have := hA.out; rwa [List.take_length] at this))
            clear hA
            have HT1 : As (Rd wq (fun q => w.heap.size ≤ q) (Value.slice A5 out.length d5) out.length (strs out)) := HRQ
            have o1 : As (∀ y ∈ (strs out), y.oneCell' = true) := ⟨strs_one _⟩
            have l1 : As ((strs out).length = out.length * 1) := ⟨by simp [strs]⟩
            have s1 := As.mk (show (0 + out.length) * 16 ≤ 140737488355328 from by have := HL.out; omega)
            have s2 := As.mk (show (out.length + 1) * 16 ≤ 140737488355328 from by have := HL.out; omega)
            have s3 := As.mk (show (out.length + 1 + 0) * 16 ≤ 140737488355328 from by have := HL.out; omega)
            have HFI : As (strs (insS t out) = strs out ++ [.string t] ∧ (insS t out).length = out.length + 1) := ⟨by rw [HI.out, strs_append]; constructor; simp [strs]; simp⟩
            go_wp2_with (at_builtin; refine wp_append (own_nil _ wq.heap.size 9 1) HT1.out Tryz.underlying22 info9 rfl (by decide) (by decide) rfl rfl rfl rfl o1.out l1.out (Nat.le_refl _) s1.out ?_)
            intro v1 w1 ho1 hg1 _
            have HO1 := As.mk ho1
            have HB1 := As.mk ((Below.refl wq.heap.size wq).grown hg1 (Nat.le_refl _) (fun q hq => by simp [Value.ownBlock] at hq))
            have z1 : As (wq.heap.size ≤ (w1.alloc (.cells #[.string t] 9)).heap.size) := ⟨by simp; have := (HB1.out).size; omega⟩
            clear ho1
            go_wp2_with (at_builtin; refine wp_append ((HO1.out).alloc _) (rd_box _ _ _) Tryz.underlying22 info9 rfl (by decide) (by decide) rfl rfl rfl rfl (strs_one [t]) rfl z1.out s2.out ?_)
            intro v2 w2 ho2 hg2 _
            have HO2 := As.mk ho2
            have HB2 := As.mk (((HB1.out).alloc (HB1.out).size _).grown hg2 z1.out (fun q hq => (own_lt HO1.out q hq).1))
            clear ho2
            go_wp2_with (at_builtin; refine wp_append HO2.out (Rd.empty _ (fun _ => True) _ _) Tryz.underlying22 info9 rfl (by decide) (by decide) rfl rfl rfl rfl (by simp) (by simp) (HB2.out).size s3.out ?_)
            all_goals
              intro v3 w3 ho3 hg3 _
              have HB3 := As.mk ((HB2.out).grown hg3 (HB2.out).size (fun q hq => (own_lt HO2.out q hq).1))
              have HF : As (RdS w3 (fun q => w.heap.size ≤ q) v3 (insS t out)) := ⟨by
                have hr := (own_rd ho3).mono (ok' := fun q => w.heap.size ≤ q) (fun q hq _ => Nat.le_trans (HBQ.out).size hq.2)
                unfold RdS
                rw [HFI.out.1, HFI.out.2]
                simpa using hr⟩
              have r0 := cell_below HB3.out q0
              have r1 := cell_below HB3.out q1
              clear ho3
              go_wp2
              go_roundw
              case rel => exact ⟨k + 1, by omega, by go_num, ⟨by rw [HS.out, if_pos ⟨c0, c2⟩]; exact HF.out⟩, r0, r1, (HBQ.out).trans ((HB3.out).mono (HBQ.out).size), Nat.lt_of_lt_of_le qs (HB3.out).size⟩
              case measure => simp [intOf]; omega
      · have c2b : decide ((T.length : Int) ≤ x) = true := decide_eq_true (by omega)
        go_wp2
        go_quiet (fail)
        go_wp2
        go_roundw
        case rel => exact ⟨k + 1, by omega, by go_num, ⟨by rw [HS.out, if_neg (by omega)]; exact hR.out⟩, hc0, hc1, below_drewN hb _, hsz⟩
        case measure => simp [intOf]; omega
    · go_wp2
      go_ret
      exact ⟨_, rfl, by have := hR.out; rwa [List.take_of_length_le (by omega)] at this, hb⟩
end Go.Proofs.YtalnfhipggbdlaaGreatDoor
