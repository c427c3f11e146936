/- slices.Insert of one number into a row of the call's own. -/
import Derived.Test.YtalnfhipggbdlaaGreatDoorL1
namespace Go.Proofs.YtalnfhipggbdlaaGreatDoor
open Go.RowKit Go.Sort
set_option linter.unusedVariables false
set_option linter.unusedSimpArgs false

theorem setCells_heap (b : Nat) (e : TypeId) (fr : Nat × Nat) : ∀ (vs : List Value) (o : Nat) (w : World) (cur : Array Value), w.heap[b]? = some (.cells cur e fr) →
    ∃ cur', (w.setCells b o vs).heap[b]? = some (.cells cur' e fr) ∧ cur'.size = cur.size ∧ (∀ j, j < o ∨ o + vs.length ≤ j → cur'[j]? = cur[j]?) ∧ ∀ j v, vs[j]? = some v → o + j < cur.size → cur'[o + j]? = some v
  | [], o, w, cur, h => ⟨cur, h, rfl, fun _ _ => rfl, fun j v hv => by simp at hv⟩
  | x :: vs, o, w, cur, h => by
    have h1 : (w.setCell ⟨b, o, none⟩ x).heap[b]? = some (.cells (cur.setIfInBounds o x) e fr) := by
      simp [World.setCell, Array.getElem?_modify, h]
    obtain ⟨cur', h2, h3, h4, h5⟩ := setCells_heap b e fr vs (o + 1) _ _ h1
    refine ⟨cur', h2, by rw [h3]; simp, fun j hj => ?_, fun j v hv hlt => ?_⟩
    · rw [h4 j (by simp at hj; omega), Array.getElem?_setIfInBounds]
      rw [if_neg (by simp at hj; omega)]
    · cases j with
      | zero =>
        simp at hv
        subst hv
        rw [h4 (o + 0) (by omega), Array.getElem?_setIfInBounds]
        simp; omega
      | succ j =>
        have := h5 j v (by simpa using hv) (by simp; omega)
        rw [show o + (j + 1) = o + 1 + j by omega]
        exact this
theorem setCells_other (b : Nat) : ∀ (vs : List Value) (o : Nat) (w : World) (k : Nat), k ≠ b → (w.setCells b o vs).heap[k]? = w.heap[k]?
  | [], _, _, _, _ => rfl
  | x :: vs, o, w, k, h => by
    rw [World.setCells, setCells_other b vs (o + 1) _ k h]
    exact Below.heap_setCell w _ x k h
theorem setCells_size (b : Nat) : ∀ (vs : List Value) (o : Nat) (w : World), (w.setCells b o vs).heap.size = w.heap.size
  | [], _, _ => rfl
  | x :: vs, o, w => by rw [World.setCells, setCells_size b vs (o + 1) _]; simp
theorem setCells_rest (b : Nat) : ∀ (vs : List Value) (o : Nat) (w : World), (w.setCells b o vs).os = w.os ∧ (w.setCells b o vs).tape = w.tape ∧ (w.setCells b o vs).output = w.output
  | [], _, _ => ⟨rfl, rfl, rfl⟩
  | x :: vs, o, w => setCells_rest b vs (o + 1) _
theorem setCells_grown (w : World) (b o : Nat) (vs : List Value) : w.grownBy (w.setCells b o vs) (some b) :=
  ⟨(setCells_rest b vs o w).1, (setCells_rest b vs o w).2.1, (setCells_rest b vs o w).2.2, by rw [setCells_size]; exact Nat.le_refl _, fun k _ hk => setCells_other b vs o w k (fun e => hk (by rw [e]))⟩

/-- The list with x put at place i. -/
def putAt (l : List Int) (i : Nat) (x : Int) : List Int := l.take i ++ x :: l.drop i
theorem putAt_len (l : List Int) (i : Nat) (x : Int) (h : i ≤ l.length) : (putAt l i x).length = l.length + 1 := by simp [putAt]; omega

theorem own_of_block {w : World} {base g cap n : Nat} {e : TypeId} {cur : Array Value} {xs : List Value} (hb : base ≤ g) (hh : w.heap[g]? = some (.cells cur e (0, 0))) (hn : n ≤ cap) (hm : cap ≤ maxLen) (hs : cur.size = cap) (hx : xs.length = n)
    (ht : ∀ j, j < n → cur[j]? = xs[j]?) : w.ownsRow base e 1 (.slice (some ⟨g, 0, none⟩) n cap) n xs := by
  refine ⟨by simpa using hx, .inr ⟨g, cap, cur, rfl, hb, hh, hn, hm, by simpa using hs, ?_⟩⟩
  rw [Nat.mul_one]
  apply List.ext_getElem?
  intro j
  by_cases hj : j < n
  · rw [List.getElem?_take_of_lt hj, Array.getElem?_toList]; exact ht j hj
  · rw [List.getElem?_take_eq_none (by omega), List.getElem?_eq_none (by omega)]
theorem putAt_get (l : List Int) (i : Nat) (x : Int) (hi : i ≤ l.length) (j : Nat) : (ints (putAt l i x))[j]? = if j < i then (ints l)[j]? else if j = i then some (.int .i64 x) else (ints l)[j - 1]? := by
  unfold putAt ints
  rw [List.map_append, List.map_cons]
  have hl : (List.map (Value.int .i64) (l.take i)).length = i := by simp; omega
  by_cases h1 : j < i
  · rw [if_pos h1, List.getElem?_append_left (by omega), List.map_take, List.getElem?_take_of_lt h1]
  · rw [if_neg h1, List.getElem?_append_right (by omega), hl]
    by_cases h2 : j = i
    · subst h2; simp
    · rw [if_neg h2]
      cases hji : j - i with
      | zero => omega
      | succ k =>
        rw [List.getElem?_cons_succ, List.map_drop, List.getElem?_drop]
        congr 1
        omega
theorem grownCap_facts (w : World) (n c : Nat) (h : n < 1000000001) : n ≤ grownCap w n c 3 ∧ grownCap w n c 3 ≤ maxLen := ⟨grownCap_ge _ _ _ _, grownCap_le_maxLen _ _ _ _ (by simp only [maxLen]; omega)⟩
theorem zeroOne (n : Nat) : (Builtin.zeroCells (Value.int .i64 0).cells n).size = n := by simp [Builtin.zeroCells, Value.cells]

set_option maxHeartbeats 1000000 in
theorem Insert_calls (l : List Int) (i : Nat) (x : Int) (base vb : Nat) (v : Value) (w : World) (hO : w.ownsRow base 3 1 v l.length (ints l)) (hi : i ≤ l.length) (hl : l.length < 1000000000)
    (hvb : w.heap[vb]? = some (.cells #[.int .i64 x] 3 (0, 0))) (hne : some vb ≠ v.ownBlock) (hbase : base ≤ w.heap.size) :
    Calls Tryz.prog 81 #[v, .int .i64 i, .slice (some ⟨vb, 0, none⟩) 1 1] w fun e w' => ∃ v', e = .returned v' ∧ w'.ownsRow base 3 1 v' (l.length + 1) (ints (putAt l i x)) ∧ w.grownBy w' v.ownBlock ∧ (v'.ownBlock = v.ownBlock ∨ v'.ownBlock = some w.heap.size) := by
  have hvs : ∀ j u, [Value.int .i64 x][j]? = some u → w.cell? ⟨vb, 0 + j, none⟩ = some u := by
    intro j u hu
    cases j with
    | zero => simp at hu; subst hu; simp [World.cell?, hvb]
    | succ j => simp at hu
  have h1v : ∀ u ∈ [Value.int .i64 x], u.oneCell' = true := ints_one [x]
  have hr3 : Tryz.laysIns_ren.t 3 = 3 := rfl
  have hcs1 : ∀ u ∈ ints l, u.oneCell' = true := ints_one l
  rcases hO.2 with ⟨rfl, h0⟩ | ⟨g, cap, cur, rfl, hb, hg, hn, hm, hs, ht⟩
  · have hl0 : l = [] := List.eq_nil_of_length_eq_zero h0
    subst hl0
    have hi0 : i = 0 := by simpa using hi
    subst hi0
    have key := Any2.slices_Insert_int_end_grow Tryz.laysIns none 0 0 vb 0 1 1 [] [.int .i64 x] w (by omega) (by omega) (by omega) (by omega) rfl rfl (fun _ => rfl) (fun a ha => by cases ha) hvs h1v
    rw [hr3] at key
    refine Calls.mono key ?_
    rintro e w' ⟨rfl, rfl⟩
    obtain ⟨q1, q2⟩ := grownCap_facts w 1 0 (by omega)
    refine ⟨_, rfl, ?_, ⟨rfl, rfl, rfl, by simp, fun k hk _ => Below.heap_alloc _ _ _ (by simpa using hk)⟩, Or.inr rfl⟩
    refine own_of_block hbase (heap_alloc_new w.drew _) q1 q2 (by rw [Array.size_append, zeroOne]; simp; omega) (by rw [ints_length, putAt_len _ _ _ (by simp)]; rfl) (fun j hj => ?_)
    have hj0 : j = 0 := by simpa using hj
    subst hj0
    show (#[Value.int .i64 x] ++ Builtin.zeroCells (Value.int .i64 0).cells (grownCap w 1 0 3 - 1))[0]? = some (Value.int .i64 x)
    rw [Array.getElem?_append_left (by simp)]
    rfl
  · have hlg : l.length ≤ cap := hn
    have hs' : cur.size = cap := by simpa using hs
    have htk : ∀ j, j < l.length → cur[j]? = (ints l)[j]? := by
      intro j hj
      rw [← ht, Nat.mul_one, List.getElem?_take_of_lt hj, Array.getElem?_toList]
    have hcs : ∀ j u, (ints l)[j]? = some u → w.cell? ⟨g, 0 + j, none⟩ = some u := by
      intro j u hu
      have hj : j < l.length := by
        have := (List.getElem?_eq_some_iff.1 hu).1
        rwa [ints_length] at this
      rw [Nat.zero_add]
      simp only [World.cell?, hg]
      rw [← hu, ← htk j hj]
      simp
    have hsome : ∀ j, j < cap → (w.cell? ⟨g, 0 + j, none⟩).isSome = true := by
      intro j hj
      rw [Nat.zero_add]
      simp only [World.cell?, hg]
      simp [hs', hj]
    have hfz : ∀ o, w.frozen? ⟨g, o, none⟩ = false := by intro o; simp [World.frozen?, hg]
    have hgl : g < w.heap.size := (Array.getElem?_eq_some_iff.1 hg).1
    have hcap63 : cap ≤ 9223372036854775807 := by simp only [maxLen] at hm; omega
    have hlen1 : (ints (putAt l i x)).length = l.length + 1 := by rw [ints_length, putAt_len _ _ _ hi]
    by_cases hroom : l.length + 1 ≤ cap
    · by_cases hie : i = l.length
      · subst hie
        have key := Any2.slices_Insert_int_end_room Tryz.laysIns g 0 l.length cap vb 0 1 1 [.int .i64 x] w (by omega) hroom hcap63 rfl
          (fun j hj => by rw [show 0 + l.length + j = 0 + (l.length + j) by omega]; exact hsome _ (by omega)) (fun j hj => hfz _) hvs h1v
        refine Calls.mono key ?_
        rintro e w' ⟨rfl, rfl⟩
        obtain ⟨cur', c1, c2, c3, c4⟩ := setCells_heap g 3 (0, 0) [.int .i64 x] (0 + l.length) w cur hg
        refine ⟨_, rfl, own_of_block hb c1 hroom hm (by omega) hlen1 (fun j hj => ?_), setCells_grown _ _ _ _, Or.inl rfl⟩
        rw [putAt_get l _ x hi]
        by_cases hjl : j < l.length
        · rw [if_pos hjl, c3 j (by omega), htk j hjl]
        · rw [if_neg hjl, if_pos (by omega)]
          have := c4 0 _ rfl (by omega)
          rw [show j = 0 + l.length + 0 by omega]
          exact this
      · have hil : i < l.length := by omega
        have key := Any2.slices_Insert_int_shift Tryz.laysIns g 0 l.length cap i vb 0 1 1 (ints l) [.int .i64 x] w hil (by omega) hroom hcap63 (fun e => hne (by rw [e]; rfl)) (ints_length l) rfl hcs
          (fun j hj => hsome j (by omega)) (fun j hj => hfz _) hvs hcs1 h1v 3 3 1 cap (by simp [World.shape?, hvb]) (by simp [World.shape?, hg, hs']) (by omega) (by simp [World.frozen?, hvb]) (by simp [World.frozen?, hvb])
        refine Calls.mono key ?_
        rintro e w' ⟨rfl, rfl⟩
        obtain ⟨cur1, c1, c2, c3, c4⟩ := setCells_heap g 3 (0, 0) ((ints l).drop i) (0 + (i + 1)) w.drew cur hg
        obtain ⟨cur2, d1, d2, d3, d4⟩ := setCells_heap g 3 (0, 0) [.int .i64 x] (0 + i) _ cur1 c1
        have hgr : w.grownBy ((w.drew.setCells g (0 + (i + 1)) ((ints l).drop i)).setCells g (0 + i) [.int .i64 x]) (some g) :=
          (World.grownBy.trans (grown_drewN w 1 _) (setCells_grown w.drew g _ _)).trans (setCells_grown _ g _ _)
        refine ⟨_, rfl, own_of_block hb d1 hroom hm (by omega) hlen1 (fun j hj => ?_), hgr, Or.inl rfl⟩
        rw [putAt_get l _ x hi]
        have hdl : ((ints l).drop i).length = l.length - i := by rw [List.length_drop, ints_length]
        by_cases hj1 : j < i
        · rw [if_pos hj1, d3 j (by omega), c3 j (by omega), htk j (by omega)]
        · rw [if_neg hj1]
          by_cases hj2 : j = i
          · rw [if_pos hj2]
            have := d4 0 _ rfl (by omega)
            rw [show j = 0 + i + 0 by omega]
            exact this
          · rw [if_neg hj2, d3 j (by simp; omega)]
            have hg2 : ((ints l).drop i)[j - (i + 1)]? = (ints l)[j - 1]? := by rw [List.getElem?_drop]; congr 1; omega
            have hjl : j - 1 < (ints l).length := by rw [ints_length]; omega
            rw [List.getElem?_eq_getElem hjl] at hg2 ⊢
            have := c4 (j - (i + 1)) _ hg2 (by omega)
            rw [show 0 + (i + 1) + (j - (i + 1)) = j by omega] at this
            exact this
    · have hcl : cap < l.length + 1 := by omega
      obtain ⟨q1, q2⟩ := grownCap_facts w (l.length + 1) cap (by omega)
      by_cases hie : i = l.length
      · subst hie
        have key := Any2.slices_Insert_int_end_grow Tryz.laysIns (some ⟨g, 0, none⟩) l.length cap vb 0 1 1 (ints l) [.int .i64 x] w (by omega) hlg hcl (by omega) (ints_length l) rfl (fun h => by cases h)
          (fun a ha j u hu => by injection ha with ha; subst ha; rw [add_lit]; exact hcs j u hu) hvs h1v
        rw [hr3] at key
        refine Calls.mono key ?_
        rintro e w' ⟨rfl, rfl⟩
        refine ⟨_, rfl, ?_, ⟨rfl, rfl, rfl, by simp, fun k hk _ => Below.heap_alloc _ _ _ (by simpa using hk)⟩, Or.inr rfl⟩
        refine own_of_block hbase (heap_alloc_new w.drew _) q1 q2 (by rw [Array.size_append, zeroOne]; simp [ints]; omega) hlen1 (fun j hj => ?_)
        rw [Array.getElem?_append_left (by simp [ints]; omega), putAt_get l _ x hi]
        by_cases hjl : j < l.length
        · rw [if_pos hjl, List.getElem?_toArray, List.getElem?_append_left (by rw [ints_length]; exact hjl)]
        · rw [if_neg hjl, if_pos (by omega), List.getElem?_toArray, List.getElem?_append_right (by rw [ints_length]; omega), ints_length, show j - l.length = 0 by omega]; rfl
      · have hil : i < l.length := by omega
        have key := Any2.slices_Insert_int_grow Tryz.laysIns g 0 l.length cap i vb 0 1 1 (ints l) [.int .i64 x] w hil (by omega) hlg hcl (by omega) (ints_length l) rfl hcs hvs hcs1 h1v
        rw [hr3] at key
        refine Calls.mono key ?_
        rintro e w' ⟨rfl, rfl⟩
        obtain ⟨B, hB⟩ : ∃ B : Array Value, B = ((ints l).take i).toArray ++ Builtin.zeroCells (Value.int .i64 0).cells (l.length + 1 - i) ++ Builtin.zeroCells (Value.int .i64 0).cells (grownCap w (l.length + 1) cap 3 - (l.length + 1)) := ⟨_, rfl⟩
        have hBs : B.size = grownCap w (l.length + 1) cap 3 := by
          rw [hB, Array.size_append, Array.size_append, zeroOne, zeroOne]
          simp [ints]
          omega
        have hB0 : (w.alloc (.cells B 3)).drew.heap[w.heap.size]? = some (.cells B 3 (0, 0)) := heap_alloc_new w _
        obtain ⟨cur1, c1, c2, c3, c4⟩ := setCells_heap w.heap.size 3 (0, 0) [.int .i64 x] i _ B hB0
        obtain ⟨cur2, d1, d2, d3, d4⟩ := setCells_heap w.heap.size 3 (0, 0) ((ints l).drop i) (i + 1) (((w.alloc (.cells B 3)).drew.setCells w.heap.size i [.int .i64 x]).drew) cur1 c1
        have hdl : ((ints l).drop i).length = l.length - i := by rw [List.length_drop, ints_length]
        have hgr : w.grownBy ((((w.alloc (.cells B 3)).drew.setCells w.heap.size i [.int .i64 x]).drew).setCells w.heap.size (i + 1) ((ints l).drop i)) (some g) := by
          have e1 := setCells_rest w.heap.size [.int .i64 x] i (w.alloc (.cells B 3)).drew
          have e2 := setCells_rest w.heap.size ((ints l).drop i) (i + 1) (((w.alloc (.cells B 3)).drew.setCells w.heap.size i [.int .i64 x]).drew)
          refine ⟨e2.1.trans e1.1, e2.2.1.trans e1.2.1, e2.2.2.trans e1.2.2, ?_, fun k hk _ => ?_⟩
          · rw [setCells_size]
            show _ ≤ ((w.alloc (.cells B 3)).drew.setCells w.heap.size i [.int .i64 x]).heap.size
            rw [setCells_size]
            show _ ≤ (w.alloc (.cells B 3)).heap.size
            simp
          · rw [setCells_other _ _ _ _ _ (by omega)]
            show ((w.alloc (.cells B 3)).drew.setCells w.heap.size i [.int .i64 x]).heap[k]? = _
            rw [setCells_other _ _ _ _ _ (by omega)]
            exact Below.heap_alloc w _ _ hk
        rw [← hB]
        refine ⟨_, rfl, own_of_block hbase d1 q1 q2 (by omega) hlen1 (fun j hj => ?_), hgr, Or.inr rfl⟩
        rw [putAt_get l _ x hi]
        by_cases hj1 : j < i
        · rw [if_pos hj1, d3 j (by omega), c3 j (by omega), hB, Array.append_assoc, Array.getElem?_append_left (by simp [ints]; omega), List.getElem?_toArray, List.getElem?_take_of_lt hj1]
        · rw [if_neg hj1]
          by_cases hj2 : j = i
          · rw [if_pos hj2, d3 j (by omega)]
            have := c4 0 _ rfl (by omega)
            rw [show j = i + 0 by omega]
            exact this
          · rw [if_neg hj2]
            have hg2 : ((ints l).drop i)[j - (i + 1)]? = (ints l)[j - 1]? := by rw [List.getElem?_drop]; congr 1; omega
            have hjl : j - 1 < (ints l).length := by rw [ints_length]; omega
            rw [List.getElem?_eq_getElem hjl] at hg2 ⊢
            have := d4 (j - (i + 1)) _ hg2 (by omega)
            rw [show i + 1 + (j - (i + 1)) = j by omega] at this
            exact this
end Go.Proofs.YtalnfhipggbdlaaGreatDoor
