/-
  Rows of cells as arguments of laws.
-/
import Derived.Test.YtickdhdlljhomaaEv20
import Derived.Test.YtickdhdlljhomaaB1
import Derived.ProofKit
import Derived.Deep.Grids
set_option linter.unusedSimpArgs false
set_option linter.unusedVariables false
namespace Go.Proofs.Ytickdhdlljhomaa.Ev
open Go

theorem i64_wf {n : Int} (h : (Lit.int .i64 n).wf = true) : -9223372036854775808 ≤ n ∧ n ≤ 9223372036854775807 := by
  simp [Lit.wf, IntKind.min, IntKind.max, IntKind.signed, IntKind.bits] at h
  omega

def iv (l : List Int) : List V := l.map (.int .i64)

section
variable {H : Type} {enc : TypeId × Value → H} {P : Program} {W : World}
theorem row_bools {t e : TypeId} {a : Option Addr} {len cap : Nat} {d : DataW H} {ps : List MemPlace} (ht : P.underlying t = some (.slice e)) (he : P.underlying e = some .bool) (hc : P.cellsOf e = 1)
    (h : DataW.Trod enc P W 0 (fun _ => true) true t (.slice a len cap) d ps) : ∃ st l, R (gW W) (.fsl st 1 (bv l)) (.slice a len cap) := by
  obtain ⟨fuel, hf⟩ := h
  rcases Deep.open_bools ht he hc hf with ⟨hcs, _⟩ | ⟨x, l, c, B, hcs, _, hl, hm, _, hcell⟩
  · simp [Value.cells] at hcs
    obtain ⟨st, k, _⟩ := open_cells (w := W) V.bool Value.bool (fun _ => rfl) (fun _ => rfl) (fun _ => rfl) (fun _ => by simp [R]) (fun _ => false) (.inl hcs)
    exact ⟨st, _, k⟩
  · simp [Value.cells] at hcs
    obtain ⟨rfl, rfl, rfl⟩ := hcs
    obtain ⟨st, k, _⟩ := open_cells (w := W) V.bool Value.bool (fun _ => rfl) (fun _ => rfl) (fun _ => rfl) (fun _ => by simp [R]) B (.inr ⟨x, rfl, hl, fun i hi => hcell i (by omega)⟩)
    exact ⟨st, _, k⟩

theorem row_ints {t e : TypeId} {a : Option Addr} {len cap : Nat} {d : DataW H} {ps : List MemPlace} (ht : P.underlying t = some (.slice e)) (he : P.underlying e = some (.int .i64)) (hc : P.cellsOf e = 1)
    (h : DataW.Trod enc P W 0 (fun _ => true) true t (.slice a len cap) d ps) : ∃ st l, R (gW W) (.fsl st 1 (iv l)) (.slice a len cap) ∧ ∀ n ∈ l, -9223372036854775808 ≤ n ∧ n ≤ 9223372036854775807 := by
  obtain ⟨fuel, hf⟩ := h
  rcases ChangeShapes.open_ints ht he hc hf with ⟨hcs, _⟩ | ⟨x, l, c, zs, hcs, _, hl, hm, hz, _, hcell, hwz⟩
  · simp [Value.cells] at hcs
    obtain ⟨st, k, _⟩ := open_cells (w := W) (V.int .i64) (Value.int .i64) (fun _ => rfl) (fun _ => rfl) (fun _ => rfl) (fun _ => by simp [R]) (fun _ => 0) (.inl hcs)
    obtain ⟨rfl, rfl, rfl⟩ := hcs
    exact ⟨st, _, k, by simp⟩
  · simp [Value.cells] at hcs
    obtain ⟨rfl, rfl, rfl⟩ := hcs
    simp only [if_true] at hz
    obtain ⟨st, k, _⟩ := open_cells (w := W) (V.int .i64) (Value.int .i64) (fun _ => rfl) (fun _ => rfl) (fun _ => rfl) (fun _ => by simp [R]) (fun i => zs.getD i 0) (.inr ⟨x, rfl, hl, fun i hi => hcell i (by omega)⟩)
    refine ⟨st, _, k, fun n hn => ?_⟩
    simp only [List.mem_map, List.mem_range] at hn
    obtain ⟨i, hi, rfl⟩ := hn
    refine i64_wf (hwz _ ?_)
    have : i < zs.length := by omega
    simp [List.getD_eq_getElem?_getD, this]
end

end Go.Proofs.Ytickdhdlljhomaa.Ev
