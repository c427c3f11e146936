/- ctx.Text. -/
import Derived.Test.YtalnfhipggbdlaaGreatDoorG4
namespace Go.Proofs.YtalnfhipggbdlaaGreatDoor
open Go.RowKit
set_option linter.unusedVariables false
set_option linter.unusedSimpArgs false

def dig (x : Int) : ByteArray := ⟨(Lib.decDigits x.toNat).toArray⟩
def digs (l : List Int) : List ByteArray := l.map dig
theorem digs_len (l : List Int) : (digs l).length = l.length := by simp [digs]
def txt (l : List Int) : ByteArray := ⟨#[91]⟩ ++ ⟨(Lib.join ((digs l).map (·.data.toList)) [32]).toArray⟩ ++ ⟨#[93]⟩

theorem tail_inj : ∀ xs ys : List (List UInt8), (∀ x ∈ xs, x.length = 1) → (∀ y ∈ ys, y.length = 1) → Lib.joinTail [32] xs = Lib.joinTail [32] ys → xs = ys
  | [], [], _, _, _ => rfl
  | [], y :: ys, _, _, h => by simp [Lib.joinTail] at h
  | x :: xs, [], _, _, h => by simp [Lib.joinTail] at h
  | x :: xs, y :: ys, hx, hy, h => by
    simp only [Lib.joinTail, List.map_cons, List.flatten_cons] at h
    have h1 : ([32] ++ x).length = ([32] ++ y).length := by simp [hx x (by simp), hy y (by simp)]
    obtain ⟨h2, h3⟩ := List.append_inj h h1
    have h4 : x = y := by simpa using h2
    rw [h4, tail_inj xs ys (fun a ha => hx a (List.mem_cons_of_mem _ ha)) (fun a ha => hy a (List.mem_cons_of_mem _ ha)) h3]
theorem join_inj1 (xs ys : List (List UInt8)) (hx : ∀ x ∈ xs, x.length = 1) (hy : ∀ y ∈ ys, y.length = 1) (h : Lib.join xs [32] = Lib.join ys [32]) : xs = ys := by
  cases xs with
  | nil =>
    cases ys with
    | nil => rfl
    | cons y ys =>
      rw [Lib.join_cons, Lib.join_nil] at h
      have := congrArg List.length h
      simp [hy y (by simp)] at this
      omega
  | cons x xs =>
    cases ys with
    | nil =>
      rw [Lib.join_cons, Lib.join_nil] at h
      have := congrArg List.length h
      simp [hx x (by simp)] at this
    | cons y ys =>
      rw [Lib.join_cons, Lib.join_cons] at h
      obtain ⟨h2, h3⟩ := List.append_inj h (by rw [hx x (by simp), hy y (by simp)])
      rw [h2, tail_inj xs ys (fun a ha => hx a (List.mem_cons_of_mem _ ha)) (fun a ha => hy a (List.mem_cons_of_mem _ ha)) h3]
theorem tail_len : ∀ xs : List (List UInt8), (∀ x ∈ xs, x.length = 1) → (Lib.joinTail [32] xs).length = 2 * xs.length
  | [], _ => rfl
  | x :: xs, h => by
    have := tail_len xs (fun a ha => h a (List.mem_cons_of_mem _ ha))
    simp only [Lib.joinTail, List.map_cons, List.flatten_cons, List.length_append] at this ⊢
    rw [this, h x (by simp)]; simp; omega
theorem join_len1 (xs : List (List UInt8)) (h : ∀ x ∈ xs, x.length = 1) : (Lib.join xs [32]).length ≤ 2 * xs.length := by
  cases xs with
  | nil => simp [Lib.join_nil]
  | cons x xs =>
    rw [Lib.join_cons, List.length_append, tail_len xs (fun a ha => h a (List.mem_cons_of_mem _ ha)), h x (by simp)]
    simp; omega
theorem dig_eq (x : Int) (h : 0 ≤ x ∧ x < 8) : (dig x).data.toList = [UInt8.ofNat (48 + x.toNat)] := by
  have : x.toNat < 10 := by omega
  simp only [dig]
  rw [Lib.decDigits, dif_pos this]
def words (l : List Int) : List (List UInt8) := (digs l).map (fun x => x.data.toList)
theorem words_one (l : List Int) (h : okO l) : ∀ x ∈ words l, x.length = 1 := by
  intro x hx
  simp only [words, digs, List.map_map, List.mem_map, Function.comp] at hx
  obtain ⟨n, hn, rfl⟩ := hx
  rw [dig_eq n (h n hn)]; rfl
theorem words_inj : ∀ l m : List Int, okO l → okO m → words l = words m → l = m
  | [], [], _, _, _ => rfl
  | [], y :: m, _, _, h => by simp [words, digs] at h
  | x :: l, [], _, _, h => by simp [words, digs] at h
  | x :: l, y :: m, hl, hm, h => by
    simp only [words, digs, List.map_cons, List.cons.injEq] at h
    have hx := hl x (by simp)
    have hy := hm y (by simp)
    rw [dig_eq x hx, dig_eq y hy] at h
    have h1 : UInt8.ofNat (48 + x.toNat) = UInt8.ofNat (48 + y.toNat) := by simpa using h.1
    have h2 := congrArg UInt8.toNat h1
    simp at h2
    have hxy : x = y := by omega
    rw [hxy, words_inj l m (fun a ha => hl a (List.mem_cons_of_mem _ ha)) (fun a ha => hm a (List.mem_cons_of_mem _ ha)) h.2]
theorem txt_inj (l m : List Int) (hl : okO l) (hm : okO m) (h : txt l = txt m) : l = m := by
  refine words_inj l m hl hm (join_inj1 _ _ (words_one l hl) (words_one m hm) ?_)
  have h1 := congrArg (fun s : ByteArray => s.data.toList) h
  simpa [txt, words] using h1

set_option maxRecDepth 100000 in
set_option maxHeartbeats 1000000 in
theorem Text_calls (l : List Int) (v : Value) (ok : Nat → Prop) (w : World) (hl : RdI w ok v l) (hok : okO l) (hln : l.length ≤ 8) :
    Calls Tryz.prog 83 #[v] w fun e w' => e = .returned (.string (txt l)) ∧ Below w.heap.size w w' := by
  obtain ⟨A, c, rfl, _, _⟩ := Rd.form hl
  have HL := As.mk hl
  have HOK := As.mk hok
  clear hl hok
  go_enter Tryz.func83, Tryz.ntmps83
  go_wp2
  go_loopw [3, 8] (fun o v wr => ∃ k : Nat, v = .int .i64 k ∧ k ≤ l.length ∧ As (wr.ownsRow w.heap.size 9 1 o (digs (l.take k)).length (strs (digs (l.take k)))) ∧ As (Below w.heap.size w wr)) (fun _ v _ => l.length - (intOf v).toNat)
  case atStart => exact ⟨0, rfl, by omega, ⟨own_nil _ _ _ _⟩, ⟨Below.refl _ _⟩⟩
  case round =>
    obtain ⟨k, rfl, hk, hR, hB⟩ := hrel
    obtain ⟨OA, oc, rfl⟩ := own_slice hR.out
    by_cases hlt : k < l.length
    · obtain ⟨ad, rfl, e0⟩ := RdI.at (Rd.below HL.out hB.out) k hlt
      have hx := HOK.out (l.getD k 0) (by rw [getD_at l k 0 hlt]; exact List.getElem_mem hlt)
      have HS : As (digs (l.take (k + 1)) = digs (l.take k) ++ [dig (l.getD k 0)]) := ⟨by
        rw [List.take_succ_eq_append_getElem hlt, getD_at l k 0 hlt, digs, List.map_append]; rfl⟩
      have hln2 : (digs (l.take k)).length ≤ 8 := by rw [digs_len, List.length_take]; omega
      generalize l.getD k 0 = x at *
      obtain ⟨n, rfl⟩ : ∃ n : Nat, x = n := ⟨x.toNat, by omega⟩
      have hn : n < 100 := by omega
      have hd : (⟨(Lib.decDigits n).toArray⟩ : ByteArray) = dig n := rfl
      have HD := As.mk hd
      clear hd
      go_wp2_with (first
        | (go_at_call 104; refine (Tryz.strconv_Itoa_small n hn _).mono ?_; rw [HD.out]; rintro e w1 ⟨rfl, rfl⟩)
        | (at_builtin; refine wp_append (hR.out.alloc _) (rd_box _ _ _) Tryz.underlying22 info9 rfl (by decide) (by decide) rfl rfl rfl rfl (strs_one [dig n]) rfl ?_ ?_ ?_))
      · have := hB.out.size; simp; omega
      · omega
      intro v3 w3 ho3 hg3 ha3
      have hbx : Below w1.heap.size w1 (w1.alloc (.cells #[Value.string (dig n)] 9)) := by go_grown
      obtain ⟨A3, c3, rfl⟩ := own_slice ho3
      have HO3 : As (w3.ownsRow w.heap.size 9 1 (.slice A3 ((digs (l.take k)).length + 1) c3) (digs (l.take (k + 1))).length (strs (digs (l.take (k + 1))))) := ⟨by
        rw [HS.out, strs_append, List.length_append]; exact ho3⟩
      have HB2 := As.mk (hB.out.trans (hbx.mono hB.out.size))
      have HB3 : As (Below w.heap.size w w3) := ⟨HB2.out.grown hg3 HB2.out.size (fun q hq => (own_lt hR.out q hq).1)⟩
      clear ho3
      go_wp2
      go_roundw
      case rel => exact ⟨k + 1, by go_num, by omega, HO3, HB3⟩
      case measure => simp [intOf]; omega
    · have hR2 : As (wr.ownsRow w.heap.size 9 1 (.slice OA (digs (l.take k)).length oc) (digs l).length (strs (digs l))) := ⟨by have := hR.out; rwa [List.take_of_length_le (by omega)] at this ⊢⟩
      have hjl : (Lib.join (List.map (fun x => x.data.toList) (digs l)) [32]).length ≤ 100 := by
        have := join_len1 (words l) (words_one l HOK.out)
        have h2 : (words l).length = l.length := by simp [words, digs_len]
        unfold words at this h2
        omega
      have HJ : As (Calls Tryz.prog 105 #[.slice OA (digs (l.take k)).length oc, .string ⟨#[32]⟩] wr fun e w' => e = .returned (.string ⟨(Lib.join ((digs l).map (·.data.toList)) [32]).toArray⟩) ∧ Below wr.heap.size wr w') := ⟨by
        have hjl' : (Lib.join ((digs l).map (·.data.toList)) [32]).length ≤ 140737488355328 := by omega
        rcases Nat.eq_zero_or_pos l.length with h0 | hp
        · have hl0 : l = [] := List.eq_nil_of_length_eq_zero h0
          have hz : (digs (l.take k)).length = 0 := by rw [hl0, List.take_nil]; rfl
          have hj0 : Lib.join ((digs l).map (·.data.toList)) [32] = [] := by rw [hl0]; rfl
          rw [hz, hj0]
          exact (Tryz.strings_Join_none OA oc ⟨#[32]⟩ wr).mono (fun e w' h => ⟨h.1, h.2 ▸ Below.refl _ _⟩)
        · obtain ⟨g, cap, cur, hv, hbg, hcur, hn, hm, hs, ht⟩ := own_form hR2.out (by rw [digs_len]; exact hp)
          have hcell : ∀ j u, (strs (digs l))[j]? = some u → wr.cell? ((⟨g, 0, none⟩ : Addr).add j) = some u := World.ownsRow.cells hR2.out (by rw [hv]; rfl)
          rw [show (digs (l.take k)).length = (digs l).length by rw [List.take_of_length_le (by omega)]] at hv ⊢
          rw [hv]
          have hcell' : ∀ (j : Nat) x, (digs l)[j]? = some x → wr.cell? ⟨g, 0 + j, none⟩ = some (.string x) := fun j x hx => by
            have := hcell j (.string x) (by simp [strs, hx])
            rwa [add_lit] at this
          have key := Tryz.strings_Join g 0 cap (digs l) ⟨#[32]⟩ wr hcell' (Array.getElem?_eq_some_iff.1 hcur).1 (by rw [digs_len]; omega) hn hjl'
          exact key.mono (fun e w' h => ⟨h.1, h.2⟩)⟩
      go_wp2_with (go_at_call 105; refine (HJ.out).mono ?_; rintro e w1 ⟨rfl, hb1⟩)
      go_ret
      exact ⟨rfl, hB.out.trans (hb1.mono hB.out.size)⟩
end Go.Proofs.YtalnfhipggbdlaaGreatDoor
