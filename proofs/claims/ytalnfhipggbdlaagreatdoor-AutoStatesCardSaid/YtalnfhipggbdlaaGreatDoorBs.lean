/- Readings of slices by their cells, with the blocks that they lie in; append. Over any program. -/
import Derived.WalkKit
import Derived.WalkSpells
import Derived.Handy
import Derived.Maps.AppendAt
import Derived.Deep.LoopGhost
import Derived.Deep.QuietTactic
import Derived.BigQuiet
import Derived.Deep.DeepCutAuto
import Derived.Deep.RegionHeld3
import Derived.Lib.Hide
import Derived.Outline
namespace Go.Proofs.YtalnfhipggbdlaaGreatDoor
open Go.RowKit
set_option linter.unusedVariables false
set_option linter.unusedSimpArgs false

/-- A fact that the walk's simp doesn't look into. -/
structure As (p : Prop) : Prop where mk :: (out : p)

theorem ret_bool {a b : Bool} (h : a = b) : Ending.returned (.bool a) = .returned (.bool b) := by rw [h]
theorem ret_int {k : IntKind} {a b : Int} (h : a = b) : Ending.returned (.int k a) = .returned (.int k b) := by rw [h]

theorem below_drewN {B : Nat} {w W : World} (h : Below B w W) (n : Nat) : Below B w (W.drewN n) := ⟨h.os, h.tape, h.output, h.size, h.block⟩
theorem below_then {B : Nat} {w w1 w2 : World} (h : Below B w w1) (k : Below w1.heap.size w1 w2) (hB : B ≤ w1.heap.size) : Below B w w2 := h.trans (k.mono hB)
theorem below_seq {w w1 w2 : World} (h : Below w.heap.size w w1) (k : Below w1.heap.size w1 w2) : Below w.heap.size w w2 := h.trans (k.mono h.size)
theorem grown_of_below {w w1 : World} (h : Below w.heap.size w w1) (row : Option Nat) : w.grownBy w1 row := ⟨h.os, h.tape, h.output, h.size, fun i hi _ => h.block i hi⟩
theorem cell_lt {w : World} {a : Addr} {v : Value} (h : w.cell? a = some v) : a.block < w.heap.size := World.block_lt_of_cell? w a h
theorem cell_below {w w1 : World} (h : Below w.heap.size w w1) {a : Addr} {v : Value} (hc : w.cell? a = some v) : w1.cell? a = some v := (h.cell (cell_lt hc)).trans hc
theorem add_block (a : Addr) (j : Nat) : (a.add j).block = a.block := by unfold Addr.add; split <;> rfl
theorem add_field (ad : Addr) (m j : Nat) (hj : 0 < j) : ad.add (m + j) = ⟨(ad.add m).block, (ad.add m).off + j, none⟩ := by
  unfold Addr.add
  by_cases hm : m = 0
  · subst hm
    simp [Nat.ne_of_gt hj]
  · simp [hm, Nat.add_assoc]

/-- v is a slice of n elements whose cells are cs; they lie in a block of ok. -/
def Rd (w : World) (ok : Nat → Prop) (v : Value) (n : Nat) (cs : List Value) : Prop :=
  ∃ A c, v = .slice A n c ∧ n ≤ c ∧ n ≤ 9223372036854775807 ∧ (0 < cs.length → ∃ ad, A = some ad ∧ ok ad.block ∧ ∀ j u, cs[j]? = some u → w.cell? (ad.add j) = some u)
section
variable {w w1 : World} {ok ok' : Nat → Prop} {v : Value} {n : Nat} {cs : List Value}
theorem Rd.step (h : Rd w ok v n cs) (hm : ∀ k, ok k → k < w.heap.size → w1.heap[k]? = w.heap[k]?) : Rd w1 ok v n cs := by
  obtain ⟨A, c, he, h1, h2, h3⟩ := h
  refine ⟨A, c, he, h1, h2, fun hp => ?_⟩
  obtain ⟨ad, hA, hk, hc⟩ := h3 hp
  refine ⟨ad, hA, hk, fun j u hu => ?_⟩
  have h4 := hc j u hu
  have hlt := cell_lt h4
  rw [add_block] at hlt
  rw [← h4]
  exact World.cell?_of_block (by rw [add_block]; exact hm _ hk hlt)
theorem Rd.mono (h : Rd w ok v n cs) (hok : ∀ k, ok k → k < w.heap.size → ok' k) : Rd w ok' v n cs := by
  obtain ⟨A, c, he, h1, h2, h3⟩ := h
  refine ⟨A, c, he, h1, h2, fun hp => ?_⟩
  obtain ⟨ad, hA, hk, hc⟩ := h3 hp
  refine ⟨ad, hA, hok _ hk ?_, hc⟩
  have hlt := cell_lt (hc 0 _ (List.getElem?_eq_getElem hp))
  rwa [add_block] at hlt
theorem Rd.bound (h : Rd w ok v n cs) : Rd w (fun k => ok k ∧ k < w.heap.size) v n cs := h.mono (fun _ hk hlt => ⟨hk, hlt⟩)
theorem Rd.below (h : Rd w ok v n cs) (hb : Below w.heap.size w w1) : Rd w1 ok v n cs := h.step (fun k _ hk => hb.block k hk)
theorem Rd.any (h : Rd w ok v n cs) : Rd w (fun _ => True) v n cs := h.mono (fun _ _ _ => trivial)
theorem Rd.cell {A : Option Addr} {c : Nat} (h : Rd w ok (.slice A n c) n cs) (j : Nat) (hj : j < cs.length) : ∃ ad, A = some ad ∧ ok ad.block ∧ ad.block < w.heap.size ∧ w.cell? (ad.add j) = some cs[j] := by
  obtain ⟨A', c', he, h1, h2, h3⟩ := h
  injection he with he1 he2 he3
  subst he1
  obtain ⟨ad, hA, hk, hc⟩ := h3 (by omega)
  have hcj := hc j _ (List.getElem?_eq_getElem hj)
  have hlt := cell_lt hcj
  rw [add_block] at hlt
  exact ⟨ad, hA, hk, hlt, hcj⟩
theorem Rd.len_le {A : Option Addr} {c m : Nat} (h : Rd w ok (.slice A m c) n cs) : m = n ∧ n ≤ c ∧ n ≤ 9223372036854775807 := by
  obtain ⟨A', c', he, h1, h2, h3⟩ := h
  injection he with he1 he2 he3
  subst he1 he2 he3
  exact ⟨rfl, h1, h2⟩
theorem Rd.nil (w : World) (ok : Nat → Prop) : Rd w ok (.slice none 0 0) 0 [] := ⟨none, 0, rfl, Nat.le_refl _, by omega, fun h => by simp at h⟩
theorem Rd.empty (w : World) (ok : Nat → Prop) (A : Option Addr) (c : Nat) : Rd w ok (.slice A 0 c) 0 [] := ⟨A, c, rfl, Nat.zero_le _, by omega, fun h => by simp at h⟩
theorem Rd.form (h : Rd w ok v n cs) : ∃ A c, v = .slice A n c ∧ n ≤ c ∧ n ≤ 9223372036854775807 := by
  obtain ⟨A', c', he, h1, h2, h3⟩ := h
  exact ⟨A', c', he, h1, h2⟩
end

/-- What the call owns is read. -/
theorem own_rd {w : World} {base n size : Nat} {e : TypeId} {v : Value} {xs : List Value} (h : w.ownsRow base e size v n xs) : Rd w (fun k => v.ownBlock = some k ∧ base ≤ k) v n xs := by
  obtain ⟨h1, h2⟩ := h
  rcases h2 with ⟨rfl, rfl⟩ | ⟨g, cap, cur, rfl, hb, hg, hn, hm, hs, ht⟩
  · have : xs = [] := List.eq_nil_of_length_eq_zero (by simpa using h1)
    subst this
    exact Rd.nil _ _
  · refine ⟨_, cap, rfl, hn, by simp only [maxLen] at hm; omega, fun _ => ⟨_, rfl, ⟨rfl, hb⟩, ?_⟩⟩
    exact World.ownsRow.cells (base := base) (e := e) (size := size) (n := n) (v := .slice (some ⟨g, 0, none⟩) n cap) ⟨h1, .inr ⟨g, cap, cur, rfl, hb, hg, hn, hm, hs, ht⟩⟩ rfl
theorem own_move {w w1 : World} {base : Nat} {e : TypeId} {size n : Nat} {v : Value} {xs : List Value} (h : w.ownsRow base e size v n xs) (hm : ∀ k, v.ownBlock = some k → k < w.heap.size → w1.heap[k]? = w.heap[k]?) : w1.ownsRow base e size v n xs := by
  obtain ⟨h1, h2⟩ := h
  refine ⟨h1, ?_⟩
  rcases h2 with h2 | ⟨g, cap, cur, rfl, hg, hh, r⟩
  · exact .inl h2
  · exact .inr ⟨g, cap, cur, rfl, hg, (hm g rfl (Array.getElem?_eq_some_iff.1 hh).1).trans hh, r⟩
theorem own_below {w w1 : World} {base : Nat} {e : TypeId} {size n : Nat} {v : Value} {xs : List Value} (h : w.ownsRow base e size v n xs) (hb : Below w.heap.size w w1) : w1.ownsRow base e size v n xs := own_move h (fun k _ hk => hb.block k hk)
theorem own_lower {w : World} {base base' : Nat} {e : TypeId} {size n : Nat} {v : Value} {xs : List Value} (h : w.ownsRow base e size v n xs) (hb : base' ≤ base) : w.ownsRow base' e size v n xs := by
  obtain ⟨h1, h2⟩ := h
  refine ⟨h1, ?_⟩
  rcases h2 with h2 | ⟨g, cap, cur, rfl, hg, r⟩
  · exact .inl h2
  · exact .inr ⟨g, cap, cur, rfl, Nat.le_trans hb hg, r⟩
theorem own_lt {w : World} {base : Nat} {e : TypeId} {size n : Nat} {v : Value} {xs : List Value} (h : w.ownsRow base e size v n xs) (k : Nat) (hk : v.ownBlock = some k) : base ≤ k ∧ k < w.heap.size := h.lt k hk
theorem own_typed {w : World} {base : Nat} {e : TypeId} {size n : Nat} {v : Value} {xs : List Value} (h : w.ownsRow base e size v n xs) (k : Nat) (hk : v.ownBlock = some k) : ∃ cells, w.heap[k]? = some (.cells cells e (0, 0)) := by
  rcases h.2 with ⟨rfl, _⟩ | ⟨g, cap, cur, rfl, hg, hh, r⟩
  · simp [Value.ownBlock] at hk
  · have : g = k := by simpa [Value.ownBlock] using hk
    subst this
    exact ⟨cur, hh⟩
theorem own_slice {w : World} {base n : Nat} {e : TypeId} {size : Nat} {v : Value} {xs : List Value} (h : w.ownsRow base e size v n xs) : ∃ A c, v = .slice A n c := by
  rcases h.2 with ⟨rfl, rfl⟩ | ⟨g, cap, cur, rfl, _⟩
  · exact ⟨none, 0, rfl⟩
  · exact ⟨_, cap, rfl⟩
theorem own_nil (W : World) (base : Nat) (e : TypeId) (size : Nat) : W.ownsRow base e size (.slice none 0 0) 0 [] := ⟨by simp, .inl ⟨rfl, rfl⟩⟩
theorem cell_grown {w w1 : World} {row : Option Nat} (hg : w.grownBy w1 row) {a : Addr} {v : Value} (hc : w.cell? a = some v) (hne : some a.block ≠ row) : w1.cell? a = some v := by
  rw [← hc]
  exact World.cell?_of_block (hg.block _ (cell_lt hc) hne)
/-- Behind an append to v (it left v1): what lies apart from v lies apart from v1. -/
theorem rd_after {w w1 : World} {v v1 u : Value} {n : Nat} {cs : List Value} (h : Rd w (fun q => v.ownBlock ≠ some q) u n cs) (hg : w.grownBy w1 v.ownBlock) (hat : v1.ownBlock = v.ownBlock ∨ ∃ b, v1.ownBlock = some b ∧ w.heap.size ≤ b) : Rd w1 (fun q => v1.ownBlock ≠ some q) u n cs :=
  ((h.bound).step (w1 := w1) (fun q hq hlt => hg.block q hlt (fun e => hq.1 e.symm))).mono (fun q hq _ => by
    rcases hat with hat | ⟨b, hat, hle⟩
    · rw [hat]; exact hq.1
    · rw [hat]; intro e; injection e with e; have := hq.2; omega)
/-- A literal that was just built. -/
theorem own_lit (W : World) (base : Nat) (e : TypeId) (size n : Nat) (cs : Array Value) (hb : base ≤ W.heap.size) (hn : n ≤ 9223372036854775807) (hc : cs.size = n * size) : (W.alloc (.cells cs e)).ownsRow base e size (.slice (some ⟨W.heap.size, 0, none⟩) n n) n cs.toList :=
  ⟨by simpa using hc, .inr ⟨W.heap.size, n, cs, rfl, hb, heap_alloc_new W _, Nat.le_refl _, by simpa [maxLen] using hn, hc, by rw [← hc]; exact List.take_length⟩⟩

section
variable {P : Program} {ops : Array Oper} {rest : List Oper} {o : Oper} {a : Act} {Q : Exit → Act → World → Prop}
/-- append(v, ys...): behind 'at_builtin'. -/
theorem wp_append {W : World} {base : Nat} {t e : TypeId} {z : Value} {size bytes : Nat} {v : Value} {n : Nat} {xs : List Value} {u : Value} {m : Nat} {ys : List Value} {ok : Nat → Prop} {s x : Operand}
    (HO : W.ownsRow base e size v n xs) (HR : Rd W ok u m ys) (ht : P.underlying t = some (.slice e)) (hinfo : (P.info? e).map (fun i => (i.zero, i.size, i.bytes)) = some (some z, size, bytes)) (hz : z.cells.size = size) (hs0 : 0 < size) (hb0 : 0 < bytes)
    (hgd : o.guard = none) (ho : o.op = .call { callee := .builtin .append, args := #[s, x], argTypes := #[t, t] }) (hs : a.eval s = v) (hx : a.eval x = u) (h1 : ∀ y ∈ ys, y.oneCell' = true)
    (hys : ys.length = m * size) (hbase : base ≤ W.heap.size) (hl : (n + m) * bytes ≤ 140737488355328)
    (h : ∀ v1 w1, w1.ownsRow base e size v1 (n + m) (xs ++ ys) → W.grownBy w1 v.ownBlock → (v1.ownBlock = v.ownBlock ∨ v1.ownBlock = some W.heap.size) → wpList P ops Q rest (a.put o.dst v1) w1) :
    wpList P ops Q (o :: rest) a W := by
  obtain ⟨i0, hi, hzz⟩ := Option.map_eq_some_iff.1 hinfo
  simp only [Prod.mk.injEq] at hzz
  obtain ⟨hz0, hz1, hz2⟩ := hzz
  obtain ⟨A, c, rfl, hmc, hmm, hR⟩ := HR
  have hlen : n + m ≤ 140737488355328 := Nat.le_trans (Nat.le_mul_of_pos_right _ hb0) hl
  have hrun : ∃ v1 w1, (Builtin.append_ #[t, t] o.type #[v, .slice A m c]).run P W = .ok v1 w1 ∧ w1.ownsRow base e size v1 (n + m) (xs ++ ys) ∧ W.grownBy w1 v.ownBlock ∧ (v1.ownBlock = v.ownBlock ∨ v1.ownBlock = some W.heap.size) := by
    rcases Nat.eq_zero_or_pos m with h0 | h0
    · subst h0
      obtain rfl : ys = [] := List.eq_nil_of_length_eq_zero (by simpa using hys)
      refine ⟨v, W, ?_, by simpa using HO, World.grownBy.refl W _, .inl rfl⟩
      rcases HO.2 with ⟨rfl, hn⟩ | ⟨g, cap, cur, rfl, _, _, hnc, _⟩
      · cases A <;> simp [Builtin.append_, run_underlying ht, sizeOf, typeInfo, hi, Builtin.lenOf, Builtin.firstCells, loadCells, loadCellsFrom]
      · cases A <;> simp [Builtin.append_, run_underlying ht, sizeOf, typeInfo, hi, Builtin.lenOf, Builtin.firstCells, hnc, storeCells, loadCells, loadCellsFrom]
    · obtain ⟨ad, rfl, _, hcells⟩ := hR (by rw [hys]; exact Nat.mul_pos h0 hs0)
      obtain ⟨v1, w1, hr, h2, h3, _, h5⟩ := run_append_own_at (P := P) W base t o.type e i0 z size bytes ht hi hz0 hz1 hz2 hz hs0 v n xs HO ad m c ys hys hcells h1 (by simp only [maxLen]; omega) hl hbase
      exact ⟨v1, w1, hr, h2, h3, h5⟩
  obtain ⟨v1, w1, hr, hown, hg, hat⟩ := hrun
  refine wpList_plain hgd fun K hK => ?_
  unfold Oper.wp execOp
  simp only [ho, resolve, invoke, builtin, Sem.run_bind, Sem.run_pure, Result.andThen_ok, List.map_toArray, List.map_cons, List.map_nil, hs, hx, hr]
  exact hK _ _ (h v1 w1 hown hg hat)
end

/-! ### ints, strings, lists of ints -/
def ints (l : List Int) : List Value := l.map (Value.int .i64)
def strs (l : List ByteArray) : List Value := l.map Value.string
theorem ints_length (l : List Int) : (ints l).length = l.length := by simp [ints]
theorem strs_length (l : List ByteArray) : (strs l).length = l.length := by simp [strs]
theorem ints_append (l m : List Int) : ints (l ++ m) = ints l ++ ints m := by simp [ints]
theorem ints_one (l : List Int) : ∀ y ∈ ints l, y.oneCell' = true := by
  intro y hy
  simp only [ints, List.mem_map] at hy
  obtain ⟨q, _, rfl⟩ := hy
  rfl
theorem strs_one (l : List ByteArray) : ∀ y ∈ strs l, y.oneCell' = true := by
  intro y hy
  simp only [strs, List.mem_map] at hy
  obtain ⟨q, _, rfl⟩ := hy
  rfl
def RdI (w : World) (ok : Nat → Prop) (v : Value) (l : List Int) : Prop := Rd w ok v l.length (ints l)
def RdS (w : World) (ok : Nat → Prop) (v : Value) (l : List ByteArray) : Prop := Rd w ok v l.length (strs l)
section
variable {w w1 : World} {ok ok' : Nat → Prop} {v : Value} {A : Option Addr} {n c : Nat}
theorem RdI.at {l : List Int} (h : RdI w ok (.slice A l.length c) l) (j : Nat) (hj : j < l.length) : ∃ ad, A = some ad ∧ w.cell? (ad.add j) = some (.int .i64 (l.getD j 0)) := by
  obtain ⟨ad, hA, _, _, hc⟩ := Rd.cell h j (by simpa [ints] using hj)
  refine ⟨ad, hA, ?_⟩
  rw [hc]
  simp [ints, List.getD_eq_getElem?_getD, List.getElem?_eq_getElem hj]
theorem RdS.at {l : List ByteArray} (h : RdS w ok (.slice A l.length c) l) (j : Nat) (hj : j < l.length) : ∃ ad, A = some ad ∧ w.cell? (ad.add j) = some (.string (l.getD j ByteArray.empty)) := by
  obtain ⟨ad, hA, _, _, hc⟩ := Rd.cell h j (by simpa [strs] using hj)
  refine ⟨ad, hA, ?_⟩
  rw [hc]
  simp [strs, List.getD_eq_getElem?_getD, List.getElem?_eq_getElem hj]
end
/-- A list of lists of ints: the rows' values, each read. -/
def RdL (w : World) (ok : Nat → Prop) (v : Value) (S : List (List Int)) : Prop :=
  ∃ vs : List Value, vs.length = S.length ∧ Rd w ok v S.length vs ∧ ∀ (i : Nat) x u, S[i]? = some x → vs[i]? = some u → RdI w ok u x
section
variable {w w1 : World} {ok ok' : Nat → Prop} {v : Value} {S : List (List Int)}
theorem RdL.step (h : RdL w ok v S) (hm : ∀ k, ok k → k < w.heap.size → w1.heap[k]? = w.heap[k]?) : RdL w1 ok v S := by
  obtain ⟨vs, h1, h2, h3⟩ := h
  exact ⟨vs, h1, h2.step hm, fun i x u hx hu => (h3 i x u hx hu).step hm⟩
theorem RdL.mono (h : RdL w ok v S) (hok : ∀ k, ok k → k < w.heap.size → ok' k) : RdL w ok' v S := by
  obtain ⟨vs, h1, h2, h3⟩ := h
  exact ⟨vs, h1, h2.mono hok, fun i x u hx hu => (h3 i x u hx hu).mono hok⟩
theorem RdL.below (h : RdL w ok v S) (hb : Below w.heap.size w w1) : RdL w1 ok v S := h.step (fun k _ hk => hb.block k hk)
theorem RdL.at {A : Option Addr} {c : Nat} (h : RdL w ok (.slice A S.length c) S) (j : Nat) (hj : j < S.length) : ∃ ad B d, A = some ad ∧ w.cell? (ad.add j) = some (.slice B (S.getD j []).length d) ∧ RdI w ok (.slice B (S.getD j []).length d) (S.getD j []) := by
  obtain ⟨vs, h1, h2, h3⟩ := h
  obtain ⟨ad, hA, _, _, hc⟩ := Rd.cell h2 j (by omega)
  have hr := h3 j _ _ (List.getElem?_eq_getElem hj) (List.getElem?_eq_getElem (by omega))
  have e : S.getD j [] = S[j] := by rw [List.getD_eq_getElem?_getD, List.getElem?_eq_getElem hj]; rfl
  rw [e]
  obtain ⟨B, d, hu, _, _⟩ := Rd.form hr
  exact ⟨ad, B, d, hA, by rw [hc, hu], by rw [← hu]; exact hr⟩
end
theorem rd_lt {w : World} {ok : Nat → Prop} {v : Value} {l : List Int} (h : RdI w ok v l) : l.length ≤ 9223372036854775807 := by
  obtain ⟨_, _, _, _, h2⟩ := Rd.form h
  exact h2
/-- A literal's new block, read. -/
theorem rd_lit (W : World) (e : TypeId) (size n : Nat) (cs : Array Value) (hn : n ≤ 9223372036854775807) (hc : cs.size = n * size) : Rd (W.alloc (.cells cs e)) (fun k => k = W.heap.size) (.slice (some ⟨W.heap.size, 0, none⟩) n n) n cs.toList :=
  (own_rd (own_lit W W.heap.size e size n cs (Nat.le_refl _) hn hc)).mono (fun k hk _ => by have := hk.1; simp [Value.ownBlock] at this; exact this.symm)
theorem rd_box (W : World) (x : Value) (e : TypeId) : Rd (W.alloc (.cells #[x] e)) (fun k => k = W.heap.size) (.slice (some ⟨W.heap.size, 0, none⟩) 1 1) 1 [x] := rd_lit W e 1 1 #[x] (by omega) rfl
theorem getD_at {α : Type} (l : List α) (j : Nat) (z : α) (h : j < l.length) : l.getD j z = l[j] := by rw [List.getD_eq_getElem?_getD, List.getElem?_eq_getElem h]; rfl
theorem all_step {α : Type} (l : List α) (p : α → Bool) (k : Nat) (hk : k < l.length) (z : α) (h : (l.take k).all p = true) : (l.take (k + 1)).all p = p (l.getD k z) := by
  rw [List.take_succ_eq_append_getElem hk, List.all_append, h, getD_at l k z hk]; simp
theorem all_get {α : Type} (l : List α) (p : α → Bool) (h : l.all p = true) (k : Nat) (hk : k < l.length) (z : α) : p (l.getD k z) = true := by
  rw [getD_at l k z hk]; exact List.all_eq_true.1 h _ (List.getElem_mem hk)
theorem eq_false_of {a b : Bool} (h : a = true → b = true) (hb : b = false) : a = false := by cases a <;> simp_all
end Go.Proofs.YtalnfhipggbdlaaGreatDoor
