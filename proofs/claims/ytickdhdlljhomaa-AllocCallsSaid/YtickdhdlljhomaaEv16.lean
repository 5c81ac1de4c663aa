/-
  Laws for use of the evaluator.
-/
import Derived.Test.YtickdhdlljhomaaEv15
set_option linter.unusedSimpArgs false
set_option linter.unusedVariables false
namespace Go.Proofs.Ytickdhdlljhomaa.Ev
open Go

def p (i : Ins) : RI := ⟨i, none, []⟩

theorem wrap_i64 {n : Int} (h1 : -9223372036854775808 ≤ n) (h2 : n ≤ 9223372036854775807) : IntKind.wrap .i64 n = n := by
  simp only [IntKind.wrap, IntKind.bits, IntKind.signed]
  simp [BitVec.toInt_ofInt, Int.bmod]
  omega

theorem tdivn {a b : Int} (h : 0 ≤ a) : a.tdiv b = a / b := Int.tdiv_eq_ediv_of_nonneg h
theorem tmodn {a b : Int} (h : 0 ≤ a) : a.tmod b = a % b := Int.tmod_eq_emod_of_nonneg h

end Go.Proofs.Ytickdhdlljhomaa.Ev
