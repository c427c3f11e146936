/- The program's maps: their keys. -/
import Derived.Test.YtalnfhipggbdlaaGreatDoorS2
import Derived.Test.YtalnfhipggbdlaaGreatDoorMp
namespace Go.Proofs.YtalnfhipggbdlaaGreatDoor
open Go.RowKit
set_option linter.unusedVariables false
set_option linter.unusedSimpArgs false

theorem und76 : Tryz.prog.underlying 76 = some (.map 83 122) := by kernel_rfl
theorem und77 : Tryz.prog.underlying 77 = some (.map 3 39) := by kernel_rfl
theorem und84 : Tryz.prog.underlying 84 = some (.map 91 3) := by kernel_rfl
theorem und85 : Tryz.prog.underlying 85 = some (.map 9 3) := by kernel_rfl
theorem und3 : Tryz.prog.underlying 3 = some (.int .i64) := by kernel_rfl
theorem und9 : Tryz.prog.underlying 9 = some .string := by kernel_rfl
theorem und83 : Tryz.prog.underlying 83 = some (.struct (Tryz.prog.fieldsOf 83)) := by kernel_rfl
theorem und91 : Tryz.prog.underlying 91 = some (.struct (Tryz.prog.fieldsOf 91)) := by kernel_rfl
theorem zv122 (w : World) : (zeroValue 122).run Tryz.prog w = .ok (.pointer none) w := by kernel_rfl
theorem zv39 (w : World) : (zeroValue 39).run Tryz.prog w = .ok (.slice none 0 0) w := by kernel_rfl
theorem zv3 (w : World) : (zeroValue 3).run Tryz.prog w = .ok (.int .i64 0) w := by kernel_rfl

set_option maxRecDepth 100000 in
theorem chk83 (w : World) (em : Bool) (p : Int × Int) : (Instr.checkKey em 10000 83 (enc2 p)).run Tryz.prog w = .ok () w := by
  obtain ⟨a, b⟩ := p
  kernel_rfl
set_option maxRecDepth 100000 in
theorem chk91 (w : World) (em : Bool) (p : Int × Int) : (Instr.checkKey em 10000 91 (enc2 p)).run Tryz.prog w = .ok () w := by
  obtain ⟨a, b⟩ := p
  kernel_rfl
theorem eq_bool2 (a b c d : Int) (r : Bool) (h : r = (if (!(a == c)) = true then false else if (!(b == d)) = true then false else true)) : r = true ↔ (a, b) = (c, d) := by
  subst h
  by_cases h1 : a = c <;> by_cases h2 : b = d <;> simp [h1, h2]
theorem eqFields_nil (w : World) (d : Nat) (xs ys : Array Value) : (Op.eqFields d xs ys []).run Tryz.prog w = .ok true w := rfl
theorem eqFields_step {f : Field} {fs : List Field} {w : World} {d : Nat} {xs ys : Array Value} {a c : Int} {r : Bool} (hn : f.name ≠ "_") (ht : f.type = 3) (hx : (part 3 xs f.offset).run Tryz.prog w = .ok (.int .i64 a) w) (hy : (part 3 ys f.offset).run Tryz.prog w = .ok (.int .i64 c) w)
    (hr : (Op.eqFields (d + 1) xs ys fs).run Tryz.prog w = .ok r w) : (Op.eqFields (d + 1) xs ys (f :: fs)).run Tryz.prog w = .ok ((a == c) && r) w := by
  have he : (Op.equalIn (d + 1) 3 (.int .i64 a) (.int .i64 c)).run Tryz.prog w = .ok (a == c) w := by
    simp [Op.equalIn, run_underlying und3]
  rw [Op.eqFields, if_pos hn, ht]
  cases h : (a == c) <;> simp [hx, hy, he, h, hr]
theorem fields_two (t : TypeId) (h : (Tryz.prog.fieldsOf t).toList.map (fun f => (f.name, f.type, f.offset)) = [("from", 3, 0), ("field", 3, 1)]) : ∃ f g : Field, (Tryz.prog.fieldsOf t).toList = [f, g] ∧ f.name = "from" ∧ f.type = 3 ∧ f.offset = 0 ∧ g.name = "field" ∧ g.type = 3 ∧ g.offset = 1 := by
  generalize (Tryz.prog.fieldsOf t).toList = l at *
  have hl : l.length = 2 := by
    have := congrArg List.length h
    simpa using this
  obtain ⟨f, l1, rfl⟩ := List.exists_cons_of_length_eq_add_one hl
  obtain ⟨g, l2, rfl⟩ := List.exists_cons_of_length_eq_add_one (by simpa using hl : l1.length = 0 + 1)
  have h2 : l2 = [] := List.eq_nil_of_length_eq_zero (by simpa using hl)
  subst h2
  simp only [List.map_cons, List.map_nil, List.cons.injEq, Prod.mk.injEq, and_true] at h
  exact ⟨f, g, rfl, h.1.1, h.1.2.1, h.1.2.2, h.2.1, h.2.2.1, h.2.2.2⟩
theorem equ2 (t : TypeId) (ht : Tryz.prog.underlying t = some (.struct (Tryz.prog.fieldsOf t))) (hp : Tryz.prog.stoodInHeld t = false)
    (h : (Tryz.prog.fieldsOf t).toList.map (fun f => (f.name, f.type, f.offset)) = [("from", 3, 0), ("field", 3, 1)]) (w : World) (x y : Int × Int) : ∃ b : Bool, (Op.equal t (enc2 x) (enc2 y)).run Tryz.prog w = .ok b w ∧ (b = true ↔ x = y) := by
  obtain ⟨a, b⟩ := x
  obtain ⟨c, d⟩ := y
  obtain ⟨f, g, hfg, f1, f2, f3, g1, g2, g3⟩ := fields_two t h
  refine ⟨(a == c) && ((b == d) && true), ?_, by simp⟩
  have e1 := run_equalIn_struct (P := Tryz.prog) w 9999 t #[.int .i64 a, .int .i64 b] #[.int .i64 c, .int .i64 d] ht hp
  rw [hfg] at e1
  rw [eqFields_step (a := a) (c := c) (by rw [f1]; decide) f2 (by rw [f3]; kernel_rfl) (by rw [f3]; kernel_rfl) (eqFields_step (a := b) (c := d) (by rw [g1]; decide) g2 (by rw [g3]; kernel_rfl) (by rw [g3]; kernel_rfl) (eqFields_nil _ _ _ _))] at e1
  exact e1
theorem equ83 (w : World) (x y : Int × Int) : ∃ b : Bool, (Op.equal 83 (enc2 x) (enc2 y)).run Tryz.prog w = .ok b w ∧ (b = true ↔ x = y) := equ2 83 und83 (by kernel_rfl) (by kernel_rfl) w x y
theorem equ91 (w : World) (x y : Int × Int) : ∃ b : Bool, (Op.equal 91 (enc2 x) (enc2 y)).run Tryz.prog w = .ok b w ∧ (b = true ↔ x = y) := equ2 91 und91 (by kernel_rfl) (by kernel_rfl) w x y
theorem key83 : KeyB Tryz.prog 83 enc2 := keyB_struct und83 chk83 equ83
theorem key91 : KeyB Tryz.prog 91 enc2 := keyB_struct und91 chk91 equ91
theorem key3 : KeyB Tryz.prog 3 (Value.int .i64) := keyB_int und3
theorem key9 : KeyB Tryz.prog 9 Value.string := keyB_string und9
end Go.Proofs.YtalnfhipggbdlaaGreatDoor
