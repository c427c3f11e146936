/- What the rows of this seat share: arguments opened, the witness's world, the post behind a call that only makes new blocks. -/
import Derived.Test.YtalnfhipggbdlaaGreatDoorCards
import Derived.Test.YtalnfhipggbdlaaGreatDoorTie
import Derived.Test.YtalnfhipggbdlaaGreatDoorR2
import Derived.WalkKit
import Derived.ProofKit
import Derived.OpenShut
import Derived.Deep.DeepHandedRow
import Derived.Deep.Slices
import Derived.Lib.LaidTab
import Derived.Lib.SmallJoins
import Derived.SliceStrings
import Derived.Carry
namespace Go.Proofs.YtalnfhipggbdlaaGreatDoor
open Go.ChangeShapes Go.WideShapes Go.ChangeAt Go.RowKit
set_option linter.unusedVariables false
set_option linter.unusedSimpArgs false

theorem own : ownKnob Tryz.prog.godebug = none := by kernel_rfl
theorem laidOut : laidOutB Tryz.prog = true := by kernel_rfl
theorem cells74 : Tryz.prog.cellsOf 74 = 3 := by kernel_rfl
theorem cells3' : Tryz.prog.cellsOf 3 = 1 := by kernel_rfl
theorem cells9' : Tryz.prog.cellsOf 9 = 1 := by kernel_rfl
theorem cells25 : Tryz.prog.cellsOf 25 = 2 := by kernel_rfl
theorem und74 : Tryz.prog.underlying 74 = some (.array 3 3) := by kernel_rfl
theorem und3r : Tryz.prog.underlying 3 = some (.int .i64) := by kernel_rfl
theorem und9r : Tryz.prog.underlying 9 = some .string := by kernel_rfl

section
variable {P : Program} {H : Type} {enc : TypeId × Value → H} {W W' : World}
/-- Arguments read behind the call as they read before. -/
theorem trodAll_below (hl : laidOutB P = true) (hb : Below W.heap.size W W') : ∀ (ts : List TypeId) (vs : List Value) (ds : List (DataW H)) (ps : List MemPlace),
    (ts.all fun t => P.readableRec t && decide (t < P.types.size)) = true → (∀ x ∈ ps, x.block < W.heap.size) → DataW.TrodAll enc P W 0 (fun _ => true) true ts vs ds ps →
    DataW.TrodAll enc P W' 0 (fun b => decide (b < W.heap.size)) true ts vs ds ps
  | [], vs, ds, ps, _, _, h => by
    cases vs <;> cases ds <;> simp [DataW.TrodAll] at h ⊢
    exact h
  | t :: ts, vs, ds, ps, ht, hp, h => by
    obtain ⟨v, vs', d, ds', p, q, rfl, rfl, rfl, h1, h2⟩ := trodAll_cons h
    rw [List.all_cons, Bool.and_eq_true, Bool.and_eq_true, decide_eq_true_eq] at ht
    exact ⟨p, q, Below.trod hl ht.1.1 ht.1.2 h1 hb (fun x hx => hp x (List.mem_append_left _ hx)), trodAll_below hl hb ts vs' ds' q ht.2 (fun x hx => hp x (List.mem_append_right _ hx)) h2, rfl⟩

theorem law_post {f : Func} {s : ChangeSpec} {args : Array Value} {ds : List (DataW H)} {before : List MemPlace} (hl : laidOutB P = true) (h4 : P.underlying 4 = some .bool)
    (hW : DataW.Whole enc P f.params.toList s.vars false W args.toList ds [] before) (hv : s.vars = []) (hA : DataW.TrodAll enc P W 0 (fun _ => true) true f.params.toList args.toList ds before)
    (ht : (f.params.toList.all fun t => P.readableRec t && decide (t < P.types.size)) = true) (hb : Below W.heap.size W W')
    (hfn : s.fn H (ds ++ []) = { results := [.lit (.bool true)], args := ds }) (hr : f.resultTypes = #[4]) :
    s.post enc P f false true false false W args (.bool true) W' := by
  refine ⟨ds, [], before, [], before, [], hW, ?_, ?_, ?_, hb.frame _, fun h => by cases h⟩
  · rw [hfn, hr]; exact trodAll_mk1 (shut_bool h4 true)
  · rw [hfn]; exact trodAll_below hl hb _ _ _ _ ht (fun x hx => hW.lt x hx) hA
  · rw [hfn, hv]; rfl

/-! ### arguments -/
theorem open_rdI {t e : TypeId} {base : Nat} {v : Value} {d : DataW H} {p : List MemPlace} (ht : P.underlying t = some (.slice e)) (he : P.underlying e = some (.int .i64)) (hc : P.cellsOf e = 1)
    (hv : Value.okWide P W .any base t v) (h : DataW.Trod enc P W 0 (fun _ => true) true t v d p) : ∃ l, RdI W (fun _ => True) v l := by
  obtain ⟨a0, len, cap, rfl⟩ := okWide_slice ht hv
  obtain ⟨fuel, hf⟩ := h
  rcases open_ints ht he hc hf with ⟨hcs, hx⟩ | ⟨a, len', cap', zs, hcs, _, hl, hm, hz, hx, hcell, hwz⟩
  · have : (Value.slice a0 len cap) = .slice none 0 0 := by simpa [Value.cells] using hcs
    rw [this]
    exact ⟨[], Rd.nil _ _⟩
  · have : (Value.slice a0 len cap) = .slice (some a) len' cap' := by simpa [Value.cells] using hcs
    rw [this]
    have hzl : zs.length = cap' := by simpa using hz
    have htl : (zs.take len').length = len' := by rw [List.length_take]; omega
    refine ⟨zs.take len', some a, cap', by rw [htl], by omega, by rw [htl]; simp only [maxLen] at hm; omega, fun _ => ⟨a, rfl, trivial, fun j u hu => ?_⟩⟩
    have hj : j < len' := by
      have := (List.getElem?_eq_some_iff.1 hu).1
      rw [ints_length, htl] at this; exact this
    rw [hcell j (by omega)]
    have hg : (ints (zs.take len'))[j]? = some (.int .i64 (zs.getD j 0)) := by
      simp only [ints, List.getElem?_map, List.getElem?_take_of_lt hj]
      rw [List.getElem?_eq_getElem (by omega : j < zs.length), getD_at zs j 0 (by omega)]
      rfl
    rw [hg] at hu
    exact hu
theorem trod_rdS {t e : TypeId} {n : Nat} {c : Value} {y : DataW H × List MemPlace} (ht : P.underlying t = some (.slice e)) (he : P.underlying e = some .string) (hce : P.cellsOf e = 1)
    (hf : DataW.trod enc P W 0 (fun _ => true) true n t [c] = some y) : ∃ T, RdS W (fun _ => True) c T := by
  rcases open_strings ht he hce hf with ⟨hcs, hx⟩ | ⟨a, len', cap', ss, hcs, _, hl, hm, hz, hx, hcell, hws⟩
  · have : c = .slice none 0 0 := by simpa using hcs
    rw [this]
    exact ⟨[], Rd.nil _ _⟩
  · have : c = .slice (some a) len' cap' := by simpa using hcs
    rw [this]
    have hzl : ss.length = cap' := by simpa using hz
    have htl : (ss.take len').length = len' := by rw [List.length_take]; omega
    refine ⟨ss.take len', some a, cap', by rw [htl], by omega, by rw [htl]; simp only [maxLen] at hm; omega, fun _ => ⟨a, rfl, trivial, fun j u hu => ?_⟩⟩
    have hj : j < len' := by
      have := (List.getElem?_eq_some_iff.1 hu).1
      rw [strs_length, htl] at this; exact this
    rw [hcell j (by omega)]
    have hg : (YtalnfhipggbdlaaGreatDoor.strs (ss.take len'))[j]? = some (.string (ss.getD j ByteArray.empty)) := by
      simp only [YtalnfhipggbdlaaGreatDoor.strs, List.getElem?_map, List.getElem?_take_of_lt hj]
      rw [List.getElem?_eq_getElem (by omega : j < ss.length), getD_at ss j _ (by omega)]
      rfl
    rw [hg] at hu
    exact hu
/-- Three cells that read as an array of three ints. -/
theorem trod_edge {t e : TypeId} {n : Nat} {cs : List Value} {y : DataW H × List MemPlace} (ht : P.underlying t = some (.array 3 e)) (he : P.underlying e = some (.int .i64)) (hc3 : P.cellsOf t = 3) (hce : P.cellsOf e = 1)
    (hf : DataW.trod enc P W 0 (fun _ => true) true n t cs = some y) : ∃ e : Edge, cs = edge1 e := by
  obtain ⟨xs, m, _, _, hlen, hxl, hel⟩ := DataW.trod_array ht hf
  rw [hc3] at hlen
  match cs, hlen with
  | [c0, c1, c2], _ =>
    have h0 := hel 0 (by omega)
    have h1 := hel 1 (by omega)
    have h2 := hel 2 (by omega)
    rw [List.getElem?_eq_getElem (by omega : 0 < xs.length)] at h0
    rw [List.getElem?_eq_getElem (by omega : 1 < xs.length)] at h1
    rw [List.getElem?_eq_getElem (by omega : 2 < xs.length)] at h2
    obtain ⟨x, e0, _⟩ := DataW.trod_int he h0
    obtain ⟨f, e1, _⟩ := DataW.trod_int he h1
    obtain ⟨z, e2, _⟩ := DataW.trod_int he h2
    rw [hce] at e0 e1 e2
    simp at e0 e1 e2
    exact ⟨(x, f, z), by simp [edge1, e0, e1, e2]⟩
/-- A slice of such edges, read. -/
theorem trod_rdE {t a e : TypeId} {n : Nat} {c : Value} {y : DataW H × List MemPlace} (ht : P.underlying t = some (.slice a)) (ha : P.underlying a = some (.array 3 e)) (he : P.underlying e = some (.int .i64)) (hc3 : P.cellsOf a = 3) (hce : P.cellsOf e = 1)
    (hf : DataW.trod enc P W 0 (fun _ => true) true n t [c] = some y) : ∃ E : List Edge, RdE W (fun _ => True) c E := by
  rcases Go.Deep.open_slice ht hf with ⟨hcs, hx⟩ | ⟨ad, len, cap, m, n', D, Pl, hcs, _, hl, hm, hz, hx, hel⟩
  · have : c = .slice none 0 0 := by simpa using hcs
    rw [this]
    exact ⟨[], Rd.nil _ _⟩
  · have : c = .slice (some ad) len cap := by simpa using hcs
    rw [this]
    have hmc : m = cap := by simpa using hz
    rw [hc3] at hel
    have hedge : ∀ k, k ≤ len → ∃ E : List Edge, E.length = k ∧ ∀ i, i < k → (List.range 3).mapM (fun j => W.cell? ((ad.add (i * 3)).add j)) = some (edge1 (E.getD i zE)) := by
      intro k
      induction k with
      | zero => exact fun _ => ⟨[], rfl, fun i hi => by omega⟩
      | succ k ih =>
        intro hk
        obtain ⟨E, hE, hall⟩ := ih (by omega)
        obtain ⟨cs', h1, h2⟩ := hel k (by omega)
        obtain ⟨x, rfl⟩ := trod_edge ha he hc3 hce h2
        unfold World.cells? at h1
        rw [if_pos (Nat.zero_le _)] at h1
        refine ⟨E ++ [x], by simp [hE], fun i hi => ?_⟩
        by_cases hik : i < k
        · rw [hall i hik, getD_at E i zE (by omega), getD_at (E ++ [x]) i zE (by simp; omega), List.getElem_append_left (by omega)]
        · have : i = k := by omega
          subst this
          rw [h1, getD_at (E ++ [x]) i zE (by simp; omega), List.getElem_append_right (by omega)]
          simp [hE]
    obtain ⟨E, hE, hall⟩ := hedge len (Nat.le_refl _)
    refine ⟨E, some ad, cap, by rw [hE], by omega, by simp only [maxLen] at hm; omega, fun _ => ⟨ad, rfl, trivial, fun j u hu => ?_⟩⟩
    have hj : j < len * 3 := by
      have := (List.getElem?_eq_some_iff.1 hu).1
      rw [edges_length, hE] at this; exact this
    have hi : j / 3 < len := by omega
    have h3 := hall (j / 3) hi
    obtain ⟨g0, g1, g2⟩ := edges_at E (j / 3) (by omega)
    have hcells : ∀ q, q < 3 → W.cell? ((ad.add (j / 3 * 3)).add q) = (edge1 (E.getD (j / 3) zE))[q]? := by
      intro q hq
      have hm3 := h3
      simp only [List.range, List.range.loop, List.mapM_cons, List.mapM_nil, Option.bind_eq_bind, Option.bind_eq_some_iff, Option.pure_def, Option.some.injEq] at hm3
      obtain ⟨x0, hx0, r0, ⟨x1, hx1, r1, ⟨x2, hx2, r2, rfl, rfl⟩, rfl⟩, hxe⟩ := hm3
      rw [← hxe]
      match q, hq with
      | 0, _ => rw [hx0]; rfl
      | 1, _ => rw [hx1]; rfl
      | 2, _ => rw [hx2]; rfl
    have hq := hcells (j % 3) (by omega)
    have hadd : (ad.add (j / 3 * 3)).add (j % 3) = ad.add j := by
      rw [Go.Deep.add_add]
      congr 1
      omega
    rw [hadd] at hq
    rw [hq, ← hu]
    have hjd : j = j / 3 * 3 + j % 3 := by omega
    have hm : j % 3 = 0 ∨ j % 3 = 1 ∨ j % 3 = 2 := by omega
    rcases hm with h | h | h
    · rw [show (edges E)[j]? = (edges E)[j / 3 * 3]? by congr 1; omega, g0, h]; rfl
    · rw [show (edges E)[j]? = (edges E)[j / 3 * 3 + 1]? by congr 1; omega, g1, h]; rfl
    · rw [show (edges E)[j]? = (edges E)[j / 3 * 3 + 2]? by congr 1; omega, g2, h]; rfl
end

set_option maxRecDepth 100000 in
/-- The graph that came in, opened. -/
theorem open25 {H : Type} {enc : TypeId × Value → H} {W : World} {base : Nat} {v : Value} {d : DataW H} {p : List MemPlace} (hv : Value.okWide Tryz.prog W .any base 25 v) (h : DataW.Trod enc Tryz.prog W 0 (fun _ => true) true 25 v d p) :
    ∃ tv ev T E, v = .agg #[tv, ev] ∧ RdS W (fun _ => True) tv T ∧ RdE W (fun _ => True) ev E := by
  obtain ⟨v0, v1, y0, y1, n, rfl, rfl, rfl, h0, h1⟩ := Go.Joins.open_agg2 Tryz.underlying25 (by kernel_rfl) cells25 hv h
  obtain ⟨T, hT⟩ := trod_rdS Tryz.underlying22 und9r cells9' h0
  obtain ⟨E, hE⟩ := trod_rdE Tryz.underlying23 und74 und3r cells74 cells3' h1
  exact ⟨v0, v1, T, E, rfl, hT, hE⟩

/-! ### the witness's world: the three tables as they are laid -/
def tabVals (d : DataW Unit) : Array Value :=
  match d with
  | .agg l => (l.map fun x => match x with
    | .lit (.int k n) => Value.int k n
    | _ => undef).toArray
  | _ => #[]
def putTab (vs : Array Value) (o : Obj) : Obj :=
  match o with
  | .cells _ t frozen => .cells vs t frozen
  | o => o
noncomputable def laidWorld (os : Os) : World :=
  { World.holding Tryz.prog os ⟨#[], #[], []⟩ with heap := (((World.holding Tryz.prog os ⟨#[], #[], []⟩).heap.modify 0 (putTab (tabVals Rows.laid_math_bits_deBruijn64tab))).modify 1 (putTab (tabVals Rows.laid_internal_strconv_uint64pow10))).modify 3 (putTab (tabVals Rows.laid_math_bits_deBruijn32tab)) }
end Go.Proofs.YtalnfhipggbdlaaGreatDoor
