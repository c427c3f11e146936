/- The library's slices functions over rows of the call's own, and over slices that are read. -/
import Derived.Test.YtalnfhipggbdlaaGreatDoorR1
import Derived.Test.YtalnfhipggbdlaaGreatDoorM0
import Derived.Test.YtalnfhipggbdlaaGreatDoorShelf
import Derived.Test.YtalnfhipggbdlaaGreatDoorShelfB
import Derived.Shelf.Spec.SlicesInsertGrow
import Derived.Sort.OwnSortedInts
namespace Go.Proofs.YtalnfhipggbdlaaGreatDoor
open Go.RowKit Go.Sort
set_option linter.unusedVariables false
set_option linter.unusedSimpArgs false

theorem spot_none {w : World} {a : Addr} {v : Value} (h : w.cell? a = some v) : a = ⟨a.block, a.off, none⟩ := by
  obtain ⟨b, o, s⟩ := a
  cases s with
  | none => rfl
  | some s =>
    unfold World.cell? at h
    split at h
    · simp at h
    · cases h
theorem add_lit (b o j : Nat) : (⟨b, o, none⟩ : Addr).add j = ⟨b, o + j, none⟩ := by unfold Addr.add; split <;> simp_all
/-- A slice that is read and has cells: its address is a plain one. -/
theorem Rd.plain {w : World} {ok : Nat → Prop} {v : Value} {n : Nat} {cs : List Value} (h : Rd w ok v n cs) (hp : 0 < cs.length) : ∃ b o c, v = .slice (some ⟨b, o, none⟩) n c ∧ n ≤ c ∧ n ≤ 9223372036854775807 ∧ ok b ∧ b < w.heap.size ∧ ∀ j u, cs[j]? = some u → w.cell? ⟨b, o + j, none⟩ = some u := by
  obtain ⟨A, c, rfl, h1, h2, h3⟩ := h
  obtain ⟨ad, rfl, hok, hc⟩ := h3 hp
  have h0 := hc 0 _ (List.getElem?_eq_getElem hp)
  have hs := spot_none h0
  have ha : ad = ⟨ad.block, ad.off, none⟩ := by
    have : ad.add 0 = ad := by unfold Addr.add; simp
    rw [this] at hs
    exact hs
  have hlt := cell_lt h0
  rw [add_block] at hlt
  rw [ha] at hc ⊢
  exact ⟨ad.block, ad.off, c, rfl, h1, h2, hok, hlt, fun j u hu => by rw [← add_lit]; exact hc j u hu⟩

/-- An owned row, its form. -/
theorem own_form {w : World} {base n : Nat} {e : TypeId} {v : Value} {xs : List Value} (h : w.ownsRow base e 1 v n xs) (hp : 0 < n) : ∃ g cap cur, v = .slice (some ⟨g, 0, none⟩) n cap ∧ base ≤ g ∧ w.heap[g]? = some (.cells cur e (0, 0)) ∧ n ≤ cap ∧ cap ≤ maxLen ∧ cur.size = cap ∧ cur.toList.take n = xs := by
  rcases h.2 with ⟨_, rfl⟩ | ⟨g, cap, cur, rfl, hb, hg, hn, hm, hs, ht⟩
  · omega
  · exact ⟨g, cap, cur, rfl, hb, hg, hn, hm, by simpa using hs, by simpa using ht⟩
theorem grown_drewN (w : World) (n : Nat) (row : Option Nat) : w.grownBy (w.drewN n) row := ⟨rfl, rfl, rfl, Nat.le_refl _, fun _ _ _ => rfl⟩

theorem SortI_calls (l : List Int) (base : Nat) (v : Value) (w : World) (hO : w.ownsRow base 3 1 v l.length (ints l)) (hl : l.length < 1000000000) :
    Calls Tryz.prog 88 #[v] w fun e w' => e = .returned (.tuple #[]) ∧ w'.ownsRow base 3 1 v l.length (ints (l.mergeSort fun x y => decide (x ≤ y))) ∧ w.grownBy w' v.ownBlock := by
  rcases Nat.eq_zero_or_pos l.length with h0 | hp
  · obtain ⟨A, c, rfl⟩ := own_slice hO
    have hl0 : l = [] := List.eq_nil_of_length_eq_zero h0
    subst hl0
    refine (Tryz.slices_Sort_int_none A c w).mono ?_
    rintro e w' ⟨rfl, rfl⟩
    exact ⟨rfl, by simpa using hO, World.grownBy.refl _ _⟩
  · obtain ⟨g, cap, cur, rfl, hb, hg, hn, hm, hs, ht⟩ := own_form hO hp
    refine (Tryz.slices_Sort_int g 0 cap l w (holds_of_blockI hg ht) (Array.getElem?_eq_some_iff.1 hg).1 (by omega)).mono ?_
    rintro e w' ⟨rfl, n, os, rfl⟩
    exact ⟨rfl, ownsRow_sortedI (by simp) hb hg hn hm (by simpa using hs), grownBy_sortedI _⟩

theorem putRow_own {w : World} {base g cap n : Nat} {e : TypeId} {cur : Array Value} {ts us : List Int} (hbase : base ≤ g) (hb : w.heap[g]? = some (.cells cur e (0, 0)))
    (h1 : ts.length ≤ cap) (h2 : cap ≤ maxLen) (h3 : cur.size = cap) (h4 : (ts ++ us).length ≤ cap) :
    (putRow (Value.int .i64) (Sort.ahead w n) g 0 (ts ++ us).toArray).ownsRow base e 1 (.slice (some ⟨g, 0, none⟩) ts.length cap) ts.length (ints ts) := by
  have hh := heap_sortedI (n := n) (os := #[]) (ts ++ us).toArray hb
  rw [grow_empty] at hh
  refine ⟨by simp [ints], .inr ⟨g, cap, _, rfl, hbase, hh, h1, h2, by simp [putCells, h3], ?_⟩⟩
  have ht := take_putCellsI cur (ts ++ us) (by omega)
  rw [Nat.mul_one]
  have : (putCells (Value.int .i64) 0 (ts ++ us).toArray cur).toList.take ts.length = ((putCells (Value.int .i64) 0 (ts ++ us).toArray cur).toList.take (ts ++ us).length).take ts.length := by
    rw [List.take_take, Nat.min_eq_left (by simp)]
  rw [this, ht]
  simp [ints]

theorem CompactI_calls (l : List Int) (base : Nat) (v : Value) (w : World) (hO : w.ownsRow base 3 1 v l.length (ints l)) (hl : l.length < 1000000000) :
    Calls Tryz.prog 89 #[v] w fun e w' => ∃ v', e = .returned v' ∧ w'.ownsRow base 3 1 v' (Lib.compact l).length (ints (Lib.compact l)) ∧ w.grownBy w' v.ownBlock ∧ v'.ownBlock = v.ownBlock := by
  rcases Nat.eq_zero_or_pos l.length with h0 | hp
  · obtain ⟨A, c, rfl⟩ := own_slice hO
    have hl0 : l = [] := List.eq_nil_of_length_eq_zero h0
    subst hl0
    refine (Tryz.slices_Compact_int_empty A c w).mono ?_
    rintro e w' ⟨rfl, rfl⟩
    exact ⟨_, rfl, hO, World.grownBy.refl _ _, rfl⟩
  · obtain ⟨g, cap, cur, rfl, hb, hg, hn, hm, hs, ht⟩ := own_form hO hp
    refine (Tryz.slices_Compact_int g 0 cap l w (holds_of_blockI hg ht) (by omega) hn).mono ?_
    rintro e w' ⟨rfl, q, rfl⟩
    have hcl := compact_len l
    refine ⟨_, rfl, putRow_own hb hg (by omega) hm hs (by simp; omega), ?_, rfl⟩
    have := grownBy_sortedI (w := w) (g := g) (n := q) (os := #[]) (Lib.compact l ++ List.replicate (l.length - (Lib.compact l).length) 0).toArray
    rwa [grow_empty] at this

/-! ### texts -/
def toL (s : ByteArray) : List UInt8 := s.data.toList
def ofL (l : List UInt8) : ByteArray := ⟨l.toArray⟩
theorem ofL_toL (s : ByteArray) : ofL (toL s) = s := by obtain ⟨⟨l⟩⟩ := s; rfl
theorem toL_ofL (l : List UInt8) : toL (ofL l) = l := by simp [toL, ofL]
theorem toL_inj {a b : ByteArray} (h : toL a = toL b) : a = b := by rw [← ofL_toL a, h, ofL_toL]
theorem strs_enc (l : List ByteArray) : strs l = (l.map toL).map encStr := by
  simp only [strs, List.map_map]
  apply List.map_congr_left
  intro s _
  show Value.string s = encStr (toL s)
  unfold encStr
  rw [show (⟨(toL s).toArray⟩ : ByteArray) = ofL (toL s) from rfl, ofL_toL]
theorem enc_strs (l : List (List UInt8)) : l.map encStr = strs (l.map ofL) := by simp [strs, encStr, ofL]
def upS (l : List ByteArray) : List ByteArray := (upL (l.map toL)).map ofL

theorem SortS_calls (l : List ByteArray) (base : Nat) (v : Value) (w : World) (hO : w.ownsRow base 9 1 v l.length (strs l)) (hl : l.length < 1000000000) :
    Calls Tryz.prog 86 #[v] w fun e w' => e = .returned (.tuple #[]) ∧ w'.ownsRow base 9 1 v l.length (((l.map toL).mergeSort fun x y => decide (x ≤ y)).map encStr) ∧ w.grownBy w' v.ownBlock := by
  rcases Nat.eq_zero_or_pos l.length with h0 | hp
  · obtain ⟨A, c, rfl⟩ := own_slice hO
    have hl0 : l = [] := List.eq_nil_of_length_eq_zero h0
    subst hl0
    refine (Tryz.slices_Sort_string_none A c w).mono ?_
    rintro e w' ⟨rfl, rfl⟩
    exact ⟨rfl, by simpa [strs] using hO, World.grownBy.refl _ _⟩
  · obtain ⟨g, cap, cur, rfl, hb, hg, hn, hm, hs, ht⟩ := own_form hO hp
    have hlen : (l.map toL).length = l.length := by simp
    rw [strs_enc] at ht
    have key := Tryz.slices_Sort_string g 0 cap (l.map toL) w (holds_of_block hg (by rw [hlen]; exact ht)) (Array.getElem?_eq_some_iff.1 hg).1 (by omega)
    rw [hlen] at key
    refine key.mono ?_
    rintro e w' ⟨rfl, n, os, rfl⟩
    have := ownsRow_sorted (w := w) (base := base) (n := n) (os := os) (ss := l.map toL) (ts := (l.map toL).mergeSort fun x y => decide (x ≤ y)) (by simp) hb hg (by rw [hlen]; exact hn) hm (by simpa using hs)
    rw [hlen] at this
    exact ⟨rfl, this, grownBy_sorted _⟩

theorem putRow_ownS {w : World} {base g cap n : Nat} {e : TypeId} {cur : Array Value} {ts us : List (List UInt8)} (hbase : base ≤ g) (hb : w.heap[g]? = some (.cells cur e (0, 0)))
    (h1 : ts.length ≤ cap) (h2 : cap ≤ maxLen) (h3 : cur.size = cap) (h4 : (ts ++ us).length ≤ cap) :
    (putRow encStr (Sort.ahead w n) g 0 (ts ++ us).toArray).ownsRow base e 1 (.slice (some ⟨g, 0, none⟩) ts.length cap) ts.length (ts.map encStr) := by
  have hh := heap_sorted (n := n) (os := #[]) (ts ++ us).toArray hb
  rw [grow_empty] at hh
  refine ⟨by simp, .inr ⟨g, cap, _, rfl, hbase, hh, h1, h2, by simp [putCells, h3], ?_⟩⟩
  have ht := take_putCells cur (ts ++ us) (by omega)
  rw [Nat.mul_one]
  have : (putCells encStr 0 (ts ++ us).toArray cur).toList.take ts.length = ((putCells encStr 0 (ts ++ us).toArray cur).toList.take (ts ++ us).length).take ts.length := by
    rw [List.take_take, Nat.min_eq_left (by simp)]
  rw [this, ht]
  simp

theorem CompactS_calls (l : List (List UInt8)) (base : Nat) (v : Value) (w : World) (hO : w.ownsRow base 9 1 v l.length (l.map encStr)) (hl : l.length < 1000000000) :
    Calls Tryz.prog 87 #[v] w fun e w' => ∃ v', e = .returned v' ∧ w'.ownsRow base 9 1 v' (Lib.compact l).length ((Lib.compact l).map encStr) ∧ w.grownBy w' v.ownBlock ∧ v'.ownBlock = v.ownBlock := by
  rcases Nat.eq_zero_or_pos l.length with h0 | hp
  · obtain ⟨A, c, rfl⟩ := own_slice hO
    have hl0 : l = [] := List.eq_nil_of_length_eq_zero h0
    subst hl0
    refine (Tryz.slices_Compact_string_empty A c w).mono ?_
    rintro e w' ⟨rfl, rfl⟩
    exact ⟨_, rfl, hO, World.grownBy.refl _ _, rfl⟩
  · obtain ⟨g, cap, cur, rfl, hb, hg, hn, hm, hs, ht⟩ := own_form hO hp
    refine (Tryz.slices_Compact_string g 0 cap l w (holds_of_block hg ht) (by omega) hn).mono ?_
    rintro e w' ⟨rfl, q, rfl⟩
    have hcl := compact_len l
    refine ⟨_, rfl, putRow_ownS hb hg (by omega) hm hs (by simp; omega), ?_, rfl⟩
    have := grownBy_sorted (w := w) (g := g) (n := q) (os := #[]) (Lib.compact l ++ List.replicate (l.length - (Lib.compact l).length) []).toArray
    rwa [grow_empty] at this

/-! ### Clone, BinarySearch -/
theorem CloneI_calls (l : List Int) (v : Value) (ok : Nat → Prop) (w : World) (hl : RdI w ok v l) (hb : l.length < 1000000000) :
    Calls Tryz.prog 65 #[v] w fun e w' => ∃ v', e = .returned v' ∧ w'.ownsRow w.heap.size 3 1 v' l.length (ints l) ∧ Below w.heap.size w w' := by
  rcases Nat.eq_zero_or_pos l.length with h0 | hp
  · obtain ⟨A, c, rfl, _, _⟩ := Rd.form hl
    have hl0 : l = [] := List.eq_nil_of_length_eq_zero h0
    subst hl0
    cases A with
    | none =>
      refine (Tryz.slices_Clone_int_nil 0 c w).mono ?_
      rintro e w' ⟨rfl, rfl⟩
      exact ⟨_, rfl, own_nil _ _ _ _, Below.refl _ _⟩
    | some a =>
      refine (Tryz.slices_Clone_int_zero a c w).mono ?_
      rintro e w' ⟨v', rfl, ho, _, hb⟩
      exact ⟨_, rfl, ho, hb⟩
  · obtain ⟨b, o, c, rfl, hc, hm, _, _, hcell⟩ := Rd.plain hl (by rw [ints_length]; exact hp)
    refine (Tryz.slices_Clone_int b o l.length c l w (Nat.le_refl _) (by omega) (fun j hj => hcell j _ (by simp [ints, getD_at l j 0 hj, hj]))).mono ?_
    rintro e w' ⟨v', rfl, ho, _, hb⟩
    rw [List.take_length] at ho
    exact ⟨_, rfl, ho, hb⟩
theorem CloneS_calls (l : List ByteArray) (v : Value) (ok : Nat → Prop) (w : World) (hl : RdS w ok v l) (hb : l.length < 1000000000) :
    Calls Tryz.prog 57 #[v] w fun e w' => ∃ v', e = .returned v' ∧ w'.ownsRow w.heap.size 9 1 v' l.length (strs l) ∧ Below w.heap.size w w' := by
  rcases Nat.eq_zero_or_pos l.length with h0 | hp
  · obtain ⟨A, c, rfl, _, _⟩ := Rd.form hl
    have hl0 : l = [] := List.eq_nil_of_length_eq_zero h0
    subst hl0
    cases A with
    | none =>
      refine (Tryz.slices_Clone_string_nil 0 c w).mono ?_
      rintro e w' ⟨rfl, rfl⟩
      exact ⟨_, rfl, own_nil _ _ _ _, Below.refl _ _⟩
    | some a =>
      refine (Tryz.slices_Clone_string_zero a c w).mono ?_
      rintro e w' ⟨v', rfl, ho, _, hb⟩
      exact ⟨_, rfl, ho, hb⟩
  · obtain ⟨b, o, c, rfl, hc, hm, _, _, hcell⟩ := Rd.plain hl (by rw [strs_length]; exact hp)
    refine (Tryz.slices_Clone_string b o l.length c l w (Nat.le_refl _) (by omega) (fun j hj => hcell j _ (by simp [strs, getD_at l j ByteArray.empty hj, hj]))).mono ?_
    rintro e w' ⟨v', rfl, ho, _, hb⟩
    rw [List.take_length] at ho
    exact ⟨_, rfl, ho, hb⟩
theorem Search_calls (l : List Int) (x : Int) (v : Value) (ok : Nat → Prop) (w : World) (hl : RdI w ok v l) (hb : l.length < 1000000000) (hs : l.Pairwise (· ≤ ·)) :
    Calls Tryz.prog 80 #[v, .int .i64 x] w fun e w' => e = .returned (.tuple #[.int .i64 (l.countP (· < x) : Nat), .bool (l.contains x)]) ∧ Below w.heap.size w w' := by
  rcases Nat.eq_zero_or_pos l.length with h0 | hp
  · obtain ⟨A, c, rfl, _, _⟩ := Rd.form hl
    have hl0 : l = [] := List.eq_nil_of_length_eq_zero h0
    subst hl0
    refine (Tryz.slices_BinarySearch_int_empty A c x w).mono ?_
    rintro e w' ⟨rfl, rfl⟩
    exact ⟨rfl, Below.refl _ _⟩
  · obtain ⟨b, o, c, rfl, hc, hm, _, _, hcell⟩ := Rd.plain hl (by rw [ints_length]; exact hp)
    refine (Tryz.slices_BinarySearch_int b o l.length c l x w (Nat.le_refl _) (by omega) (fun j hj => hcell j _ (by simp [ints, getD_at l j 0 hj, hj])) (by rw [List.take_length]; exact hs)).mono ?_
    rintro e w' ⟨rfl, q, rfl⟩
    rw [List.take_length]
    exact ⟨rfl, below_drewN (Below.refl _ _) _⟩
end Go.Proofs.YtalnfhipggbdlaaGreatDoor
