/- Maps whose keys are arities: a constructor's name and a class. -/
import Derived.Test.YthfomoigaoffgaaGreatMpi
import Derived.Test.YthfomoigaoffgaaGreatSo1
import Derived.Laws.StructEq
namespace Go.Proofs.YthfomoigaoffgaaGreat.Ch
open Go Go.RowKit Go.Proofs.YthfomoigaoffgaaGreat.K
set_option linter.unusedSimpArgs false
set_option linter.unusedVariables false

theorem arity_check (w : World) (b : Bool) (x y : ByteArray) : (Instr.checkKey b 10000 102 (.agg #[.string x, .string y])).run Tryz.prog w = .ok () w := by kernel_rfl
theorem str_equal (d : Nat) (w : World) (a b : ByteArray) : (Op.equalIn (d + 1) 9 (.string a) (.string b)).run Tryz.prog w = .ok (a == b) w := by
  have h := Tryz.underlying9
  simp [Op.equalIn, Sem.run_bind, run_underlying h, Result.andThen]
theorem two_equal {t : TypeId} {f0 f1 : Field} (hu : Tryz.prog.underlying t = some (.struct #[f0, f1])) (hp : Tryz.prog.stoodInHeld t = false) (t0 : f0.type = 9) (t1 : f1.type = 9) (o0 : f0.offset = 0) (o1 : f1.offset = 1) (n0 : f0.name ≠ "_") (n1 : f1.name ≠ "_")
    (w : World) (a b c d : ByteArray) : (Op.equal t (.agg #[.string a, .string b]) (.agg #[.string c, .string d])).run Tryz.prog w = .ok (a == c && b == d) w := by
  have hf : Tryz.prog.fieldsOf t = #[f0, f1] := by simp [Program.fieldsOf, hu]
  have e1 := str_equal 9998 w a c
  have e2 := str_equal 9998 w b d
  show (Op.equalIn (9999 + 1) t _ _).run _ _ = _
  rw [run_equalIn_struct (P := Tryz.prog) w 9999 t _ _ (by rw [hf]; exact hu) hp, hf]
  have p0 : ∀ (x y : ByteArray), (part 9 #[Value.string x, .string y] 0).run Tryz.prog w = .ok (.string x) w := fun x y => by go_simp
  have p1 : ∀ (x y : ByteArray), (part 9 #[Value.string x, .string y] 1).run Tryz.prog w = .ok (.string y) w := fun x y => by go_simp
  cases h1 : (a == c) <;> cases h2 : (b == d) <;> rw [h1] at e1 <;> rw [h2] at e2 <;> simp [Op.eqFields, Sem.run_bind, t0, t1, o0, o1, n0, n1, p0, p1, e1, e2, Result.andThen]
theorem arity_equal (w : World) (a b c d : ByteArray) : (Op.equal 102 (.agg #[.string a, .string b]) (.agg #[.string c, .string d])).run Tryz.prog w = .ok (a == c && b == d) w :=
  two_equal Tryz.underlying102 (by kernel_rfl) rfl rfl rfl rfl (by decide) (by decide) w a b c d
theorem arity_law : KeyLaw Tryz.prog 102 isS2 eqS2 := struct2_law Tryz.underlying102 arity_check arity_equal
end Go.Proofs.YthfomoigaoffgaaGreat.Ch
