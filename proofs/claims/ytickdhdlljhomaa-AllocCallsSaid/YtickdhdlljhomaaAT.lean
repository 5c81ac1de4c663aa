/-
  Allocs as arguments.
-/
import Derived.Test.YtickdhdlljhomaaEvT
import Derived.Test.YtickdhdlljhomaaA7
set_option linter.unusedSimpArgs false
set_option linter.unusedVariables false
namespace Go.Proofs.Ytickdhdlljhomaa.Ev
open Go

def tI : Ty := .i .i64
def tBs : Ty := .l 1 1 .b
def tIs : Ty := .l 1 8 (.i .i64)
def tAl : Ty := .st (.cons tBs (.cons tBs .nil))

theorem i_of {vs : List V} (h : TyV tI vs) : ∃ n, vs = [.int .i64 n] ∧ -9223372036854775808 ≤ n ∧ n ≤ 9223372036854775807 := h
theorem bs_of {vs : List V} (h : TyV tBs vs) : ∃ l, vs = [.fsl .loose 1 (bv l)] := by
  obtain ⟨l, e, _, _⟩ := list_of (e := .b) (f := V.bool) (q := fun _ => True) (fun us ⟨x, hx⟩ => ⟨x, by rw [hx]; rfl, trivial⟩) h
  exact ⟨l, e⟩
theorem is_of {vs : List V} (h : TyV tIs vs) : ∃ l, vs = [.fsl .loose 1 (iv l)] ∧ ∀ n ∈ l, -9223372036854775808 ≤ n ∧ n ≤ 9223372036854775807 := by
  obtain ⟨l, e, _, h2⟩ := list_of (e := .i .i64) (f := V.int .i64) (q := fun n => -9223372036854775808 ≤ n ∧ n ≤ 9223372036854775807) (fun us ⟨x, hx, hb⟩ => ⟨x, by rw [hx]; rfl, hb⟩) h
  exact ⟨l, e, h2⟩
theorem al_of {vs : List V} (h : TyV tAl vs) : ∃ b n, vs = [.fsl .loose 1 (bv b), .fsl .loose 1 (bv n)] := by
  obtain ⟨us, ws, rfl, h1, us', ws', rfl, h2, rfl⟩ := h
  obtain ⟨b, rfl⟩ := bs_of h1
  obtain ⟨n, rfl⟩ := bs_of h2
  exact ⟨b, n, rfl⟩

end Go.Proofs.Ytickdhdlljhomaa.Ev
