/- Maps by what they hold, key by key: lookup, store, make. Over any program. -/
import Derived.WalkKit
import Derived.Maps.OwnOps
import Derived.Laws.StructEq
import Derived.OwnWalk
namespace Go.Proofs.YtalnfhipggbdlaaGreatDoor
open Go.RowKit Go.MapKept
set_option linter.unusedVariables false
set_option linter.unusedSimpArgs false

/-- How keys of a type are laid: 'enc', and that the model finds them. -/
structure KeyB (P : Program) (k : TypeId) {K : Type} (enc : K → Value) : Prop where
  inj : ∀ x y, enc x = enc y → x = y
  check : ∀ (w : World) (em : Bool) (x : K), (Instr.checkKey em 10000 k (enc x)).run P w = .ok () w
  find : ∀ (w : World) (x : K) (es : List MapEntry), (∀ e ∈ es, ∃ y, e.key = enc y) →
    ((Instr.findKey k (enc x) es).run P w = .ok none w ∧ ∀ e ∈ es, e.key ≠ enc x) ∨ ∃ j e, (Instr.findKey k (enc x) es).run P w = .ok (some (j, e.val)) w ∧ es[j]? = some e ∧ e.key = enc x
  stays : ∀ (w : World) (x : K), (Instr.keyThatStays (enc x) (enc x)).run P w = .ok (enc x) w

theorem keyB_plain {P : Program} {k : TypeId} {d : TypeDesc} {K : Type} {enc : K → Value} (hk : P.underlying k = some d) (hi : ∀ x y, enc x = enc y → x = y) (his : ∀ x, IsKey d (enc x)) : KeyB P k enc where
  inj := hi
  check := fun w em x => run_checkKey hk (his x) em 9999
  find := fun w x es hes => by
    have hks : ∀ y ∈ es, IsKey d y.key := fun y hy => by
      obtain ⟨z, hz⟩ := hes y hy
      rw [hz]; exact his z
    rcases findNow_spec (his x) es 0 hks with ⟨h1, h2⟩ | ⟨j, e0, h1, h2, h3⟩
    · exact Or.inl ⟨run_findKey hk h1, h2⟩
    · exact Or.inr ⟨j, e0, by simpa using run_findKey hk h1, h2, h3⟩
  stays := fun w x => run_keyThatStays (his x)

theorem keyB_int {P : Program} {k : TypeId} {q : IntKind} (hk : P.underlying k = some (.int q)) : KeyB P k (Value.int q) :=
  keyB_plain hk (fun x y h => by injection h) (fun x => rfl)
theorem keyB_string {P : Program} {k : TypeId} (hk : P.underlying k = some .string) : KeyB P k Value.string :=
  keyB_plain hk (fun x y h => by injection h) (fun x => trivial)

/-- Keys that are structs of two ints. -/
def enc2 (p : Int × Int) : Value := .agg #[.int .i64 p.1, .int .i64 p.2]
theorem enc2_inj (x y : Int × Int) (h : enc2 x = enc2 y) : x = y := by
  obtain ⟨a, b⟩ := x
  obtain ⟨c, d⟩ := y
  simp [enc2] at h
  simp [h]
theorem findAsking_spec {P : Program} {k : TypeId} {K : Type} {enc : K → Value} (hi : ∀ x y, enc x = enc y → x = y)
    (heq : ∀ (w : World) x y, ∃ b : Bool, (Op.equal k (enc x) (enc y)).run P w = .ok b w ∧ (b = true ↔ x = y)) (w : World) (x : K) :
    ∀ (es : List MapEntry) (i : Nat), (∀ e ∈ es, ∃ y, e.key = enc y) →
    ((Instr.findAsking k (enc x) es i).run P w = .ok none w ∧ ∀ e ∈ es, e.key ≠ enc x) ∨ ∃ j e, (Instr.findAsking k (enc x) es i).run P w = .ok (some (i + j, e.val)) w ∧ es[j]? = some e ∧ e.key = enc x
  | [], i, _ => Or.inl ⟨by simp [Instr.findAsking], by simp⟩
  | e :: es, i, h => by
    obtain ⟨y, hy⟩ := h e (by simp)
    obtain ⟨b, hb, hbi⟩ := heq w x y
    cases b with
    | true =>
      have hxy : x = y := hbi.1 rfl
      subst hxy
      refine Or.inr ⟨0, e, ?_, by simp, hy⟩
      simp [Instr.findAsking, hy, hb, Result.andThen]
    | false =>
      have hxy : x ≠ y := fun hh => by have := hbi.2 hh; cases this
      rcases findAsking_spec hi heq w x es (i + 1) (fun e' he' => h e' (by simp [he'])) with ⟨h1, h2⟩ | ⟨j, e', h1, h2, h3⟩
      · refine Or.inl ⟨?_, fun e' he' => ?_⟩
        · simp [Instr.findAsking, hy, hb, Result.andThen, h1]
        · rcases List.mem_cons.1 he' with rfl | he'
          · rw [hy]; exact fun hh => hxy (hi _ _ hh).symm
          · exact h2 e' he'
      · refine Or.inr ⟨j + 1, e', ?_, by simpa using h2, h3⟩
        simp [Instr.findAsking, hy, hb, Result.andThen, h1]
        omega
theorem findNow_struct {fs : Array Field} (p : Int × Int) : ∀ (es : List MapEntry) (i : Nat), es ≠ [] → Instr.findNow (.struct fs) (enc2 p) es i = none
  | [], _, h => absurd rfl h
  | e :: es, i, _ => by simp [Instr.findNow, Instr.sameNow]
theorem keyB_struct {P : Program} {k : TypeId} {fs : Array Field} (hk : P.underlying k = some (.struct fs)) (hc : ∀ (w : World) (em : Bool) p, (Instr.checkKey em 10000 k (enc2 p)).run P w = .ok () w)
    (heq : ∀ (w : World) x y, ∃ b : Bool, (Op.equal k (enc2 x) (enc2 y)).run P w = .ok b w ∧ (b = true ↔ x = y)) : KeyB P k enc2 where
  inj := enc2_inj
  check := hc
  find := fun w x es hes => by
    cases es with
    | nil => exact Or.inl ⟨by simp [Instr.findKey, run_underlying hk, Instr.findNow, Result.andThen], by simp⟩
    | cons e es =>
      have hn := findNow_struct (fs := fs) x (e :: es) 0 (by simp)
      have hr : (Instr.findKey k (enc2 x) (e :: es)).run P w = (Instr.findAsking k (enc2 x) (e :: es) 0).run P w := by
        simp [Instr.findKey, run_underlying hk, hn, Result.andThen]
      rw [hr]
      rcases findAsking_spec enc2_inj heq w x (e :: es) 0 hes with h | ⟨j, e', h1, h2, h3⟩
      · exact Or.inl h
      · exact Or.inr ⟨j, e', by simpa using h1, h2, h3⟩
  stays := fun w x => by
    have h : Instr.sameBits 10000 (enc2 x) (enc2 x) = true := by simp [enc2, Instr.sameBits]
    simp [Instr.keyThatStays, h]

/-- Block b of w is a map that holds just m. -/
def MapIs (w : World) {K : Type} (enc : K → Value) (b : Nat) (m : K → Option Value) : Prop :=
  ∃ es clock, w.heap[b]? = some (.map es clock) ∧ Stamped es clock ∧ (∀ e ∈ es.toList, ∃ y, e.key = enc y) ∧ ∀ x v, m x = some v ↔ ∃ e ∈ es.toList, e.key = enc x ∧ e.val = v

section
variable {P : Program} {w w1 : World} {k e t : TypeId} {K : Type} {enc : K → Value} {b : Nat} {m : K → Option Value}
theorem MapIs.lt (h : MapIs w enc b m) : b < w.heap.size := by
  obtain ⟨es, clock, hb, _⟩ := h
  exact (Array.getElem?_eq_some_iff.1 hb).1
theorem MapIs.move (h : MapIs w enc b m) (hm : w1.heap[b]? = w.heap[b]?) : MapIs w1 enc b m := by
  obtain ⟨es, clock, hb, hr⟩ := h
  exact ⟨es, clock, hm.trans hb, hr⟩
theorem MapIs.below (h : MapIs w enc b m) (hb : Below w.heap.size w w1) : MapIs w1 enc b m := h.move (hb.block b h.lt)
theorem MapIs.made (w : World) : MapIs (w.alloc (.map #[] 0)) enc w.heap.size (fun _ => none) :=
  ⟨#[], 0, (MapKept.heap_alloc w _).1, stamped_empty 0, by simp, fun x v => by simp⟩
theorem MapIs.look (h : MapIs w enc b m) (B : KeyB P k enc) (ht : P.underlying t = some (.map k e)) {z : Value} (hz : (zeroValue e).run P w = .ok z w) (x : K) (c : Bool) :
    (Instr.lookup t (.map (some b)) (enc x) c).run P w = .ok (if c then .tuple #[(m x).getD z, .bool (m x).isSome] else (m x).getD z) w := by
  obtain ⟨es, clock, hb, hs, hk, hm⟩ := h
  rcases B.find w x es.toList hk with ⟨h1, h2⟩ | ⟨j, e0, h1, h2, h3⟩
  · have hn : m x = none := by
      cases hmx : m x with
      | none => rfl
      | some v =>
        obtain ⟨e', he', hk', _⟩ := (hm x v).1 hmx
        exact absurd hk' (h2 e' he')
    cases c <;> simp [Instr.lookup, run_underlying ht, MapKept.run_getObj_map hb, B.check w _ x, h1, hz, hn, Result.andThen]
  · have hn : m x = some e0.val := (hm x _).2 ⟨e0, List.mem_of_getElem? h2, h3, rfl⟩
    cases c <;> simp [Instr.lookup, run_underlying ht, MapKept.run_getObj_map hb, B.check w _ x, h1, hz, hn, Result.andThen]
theorem run_look_nil (B : KeyB P k enc) (ht : P.underlying t = some (.map k e)) {z : Value} (hz : (zeroValue e).run P w = .ok z w) (x : K) (c : Bool) :
    (Instr.lookup t (.map none) (enc x) c).run P w = .ok (if c then .tuple #[z, .bool false] else z) w := by
  rcases B.find w x [] (by simp) with ⟨h1, h2⟩ | ⟨j, e0, h1, h2, h3⟩
  · cases c <;> simp [Instr.lookup, run_underlying ht, B.check w _ x, h1, hz, Result.andThen]
  · simp at h2
theorem setBlock_grown (w : World) (b : Nat) (o : Obj) (h : b < w.heap.size) : w.grownBy (Go.ChangeMaps.setBlock w b o) (some b) ∧ (Go.ChangeMaps.setBlock w b o).heap.size = w.heap.size ∧ (Go.ChangeMaps.setBlock w b o).heap[b]? = some o := by
  refine ⟨⟨rfl, rfl, rfl, ?_, ?_⟩, ?_, ?_⟩
  · simp [Go.ChangeMaps.setBlock]
  · intro i hi hne
    simp only [Go.ChangeMaps.setBlock]
    rw [Array.getElem?_setIfInBounds_ne]
    intro e
    exact hne (by rw [e])
  · simp [Go.ChangeMaps.setBlock]
  · simp [Go.ChangeMaps.setBlock, h]
theorem MapIs.store (h : MapIs w enc b m) (B : KeyB P k enc) (ht : P.underlying t = some (.map k e)) (x : K) (v : Value) :
    ∃ w1, (Instr.mapUpdate t (.map (some b)) (enc x) v).run P w = .ok () w1 ∧ w.grownBy w1 (some b) ∧ w1.heap.size = w.heap.size ∧
      ∀ m' : K → Option Value, m' x = some v → (∀ y, y ≠ x → m' y = m y) → MapIs w1 enc b m' := by
  have hlt := h.lt
  obtain ⟨es, clock, hb, hs, hk, hm⟩ := h
  rcases B.find w x es.toList hk with ⟨h1, h2⟩ | ⟨j, e0, h1, h2, h3⟩
  · obtain ⟨g1, g2, g3⟩ := setBlock_grown w b (.map (es.push ⟨enc x, v, clock⟩) (clock + 1)) hlt
    refine ⟨_, ?_, g1, g2, fun m' hx hy => ⟨_, _, g3, stamped_push hs h2, ?_, fun y u => ?_⟩⟩
    · simp [Instr.mapUpdate, run_underlying ht, MapKept.run_getObj_map hb, B.check w false x, h1, MapKept.run_setObj_map _ hb, Result.andThen, Go.ChangeMaps.setBlock]
    · intro e' he'
      simp only [Array.toList_push, List.mem_append, List.mem_singleton] at he'
      rcases he' with he' | rfl
      · exact hk e' he'
      · exact ⟨x, rfl⟩
    · simp only [Array.toList_push, List.mem_append, List.mem_singleton]
      constructor
      · intro hu
        by_cases hyx : y = x
        · subst hyx
          rw [hx] at hu
          exact ⟨_, Or.inr rfl, rfl, by injection hu⟩
        · rw [hy y hyx] at hu
          obtain ⟨e', he', hh⟩ := (hm y u).1 hu
          exact ⟨e', Or.inl he', hh⟩
      · rintro ⟨e', he' | rfl, hh1, hh2⟩
        · by_cases hyx : y = x
          · subst hyx
            exact absurd hh1 (h2 e' he')
          · rw [hy y hyx]
            exact (hm y u).2 ⟨e', he', hh1, hh2⟩
        · have : x = y := B.inj _ _ hh1
          subst this
          rw [hx, ← hh2]
  · have hj : es[j]? = some e0 := by simpa using h2
    have hlist : (es.modify j (fun e' => { e' with key := enc x, val := v })).toList = es.toList.set j { e0 with key := enc x, val := v } := by rw [Array.toList_modify, Go.ChangeMaps.modify_eq_set _ _ _ _ h2]
    have hjl : j < es.toList.length := (List.getElem?_eq_some_iff.1 h2).1
    obtain ⟨g1, g2, g3⟩ := setBlock_grown w b (.map (es.modify j (fun e' => { e' with key := enc x, val := v })) clock) hlt
    have huniq : ∀ i e', es.toList[i]? = some e' → e'.key = enc x → i = j := by
      intro i e' hi he'
      have hn := ((stamped_iff es clock).1 hs).2.2
      rw [List.pairwise_iff_getElem] at hn
      obtain ⟨hil, hie⟩ := List.getElem?_eq_some_iff.1 hi
      obtain ⟨hjl', hje⟩ := List.getElem?_eq_some_iff.1 h2
      rcases Nat.lt_trichotomy i j with hlt' | heq | hgt
      · exact absurd (by rw [hie, hje, he', h3]) (hn i j hil hjl' hlt')
      · exact heq
      · exact absurd (by rw [hie, hje, he', h3]) (hn j i hjl' hil hgt)
    refine ⟨_, ?_, g1, g2, fun m' hx hy => ⟨_, _, g3, stamped_modify hs _ _ (fun _ _ => rfl) (fun e' _ he' => by rw [hj] at he'; cases he'; exact h3.symm), ?_, fun y u => ?_⟩⟩
    · simp [Instr.mapUpdate, run_underlying ht, MapKept.run_getObj_map hb, B.check w false x, h1, hj, h3, B.stays w x, MapKept.run_setObj_map _ hb, Result.andThen, Go.ChangeMaps.setBlock]
    · intro e' he'
      rw [hlist] at he'
      obtain ⟨i, hi, hie⟩ := List.getElem_of_mem he'
      rw [List.getElem_set] at hie
      split at hie
      · rw [← hie]; exact ⟨x, rfl⟩
      · rw [← hie]; exact hk _ (List.getElem_mem _)
    · rw [hlist]
      constructor
      · intro hu
        by_cases hyx : y = x
        · subst hyx
          rw [hx] at hu
          refine ⟨{ e0 with key := enc y, val := v }, ?_, rfl, by injection hu⟩
          exact List.mem_iff_getElem.2 ⟨j, by simpa using hjl, by simp⟩
        · rw [hy y hyx] at hu
          obtain ⟨e', he', hh1, hh2⟩ := (hm y u).1 hu
          obtain ⟨i, hi, hie⟩ := List.getElem_of_mem he'
          have hij : j ≠ i := by
            intro hh
            subst hh
            obtain ⟨hjl', hje⟩ := List.getElem?_eq_some_iff.1 h2
            rw [hje] at hie
            rw [← hie, h3] at hh1
            exact hyx (B.inj _ _ hh1).symm
          exact ⟨e', List.mem_iff_getElem.2 ⟨i, by simpa using hi, by rw [List.getElem_set_ne hij]; exact hie⟩, hh1, hh2⟩
      · rintro ⟨e', he', hh1, hh2⟩
        obtain ⟨i, hi, hie⟩ := List.getElem_of_mem he'
        rw [List.getElem_set] at hie
        split at hie
        · rw [← hie] at hh1 hh2
          have : x = y := B.inj _ _ hh1
          subst this
          rw [hx, ← hh2]
        · rename_i hne
          have hi' : i < es.toList.length := by simpa using hi
          have hyx : y ≠ x := by
            intro hh
            subst hh
            exact hne (huniq i e' (by rw [List.getElem?_eq_getElem hi', hie]) hh1).symm
          rw [hy y hyx]
          exact (hm y u).2 ⟨e', hie ▸ List.getElem_mem hi', hh1, hh2⟩
end

section
variable {P : Program} {ops : Array Oper} {rest : List Oper} {o : Oper} {a : Act} {Q : Exit → Act → World → Prop} {K : Type} {enc : K → Value}
/-- Behind 'at_lookup': m[x]. -/
theorem wp_look (w : World) (hg : o.guard = none) (mm x : Operand) (t : TypeId) (c : Bool) (hop : o.op = Op.lookup t mm x c) (k e : TypeId) (B : KeyB P k enc) (ht : P.underlying t = some (.map k e)) (z : Value) (hz : (zeroValue e).run P w = .ok z w)
    (b : Nat) (m : K → Option Value) (hm : a.eval mm = .map (some b)) (h : MapIs w enc b m) (key : K) (hx : a.eval x = enc key)
    (hK : wpList P ops Q rest (a.put o.dst (if c then .tuple #[(m key).getD z, .bool (m key).isSome] else (m key).getD z)) w) : wpList P ops Q (o :: rest) a w := by
  refine wpList_plain hg fun K' hK' => ?_
  have hrun := h.look B ht hz key c
  unfold Oper.wp
  simp [execOp, hop, hm, hx, hrun, Result.andThen]
  exact hK' _ _ hK
/-- Behind 'at_mapUpdate': m[x] = v. -/
theorem wp_store (w : World) (hg : o.guard = none) (hd : o.dst = none) (mm x u : Operand) (t : TypeId) (hop : o.op = Op.mapUpdate t mm x u) (k e : TypeId) (B : KeyB P k enc) (ht : P.underlying t = some (.map k e))
    (b : Nat) (m : K → Option Value) (hm : a.eval mm = .map (some b)) (h : MapIs w enc b m) (key : K) (hx : a.eval x = enc key) (v : Value) (hv : a.eval u = v)
    (hK : ∀ w1, w.grownBy w1 (some b) → w1.heap.size = w.heap.size → (∀ m' : K → Option Value, m' key = some v → (∀ y, y ≠ key → m' y = m y) → MapIs w1 enc b m') → wpList P ops Q rest a w1) : wpList P ops Q (o :: rest) a w := by
  refine wpList_plain hg fun K' hK' => ?_
  obtain ⟨w1, hrun, hgr, hsz, hst⟩ := h.store B ht key v
  unfold Oper.wp
  simp [execOp, hop, hm, hx, hv, hrun, Result.andThen]
  have hp : a.put o.dst undef = a := by rw [hd]; rfl
  exact hK' _ _ (by rw [hp]; exact hK w1 hgr hsz hst)
end
end Go.Proofs.YtalnfhipggbdlaaGreatDoor
