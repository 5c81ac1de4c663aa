/-
  Rows of rows of bools as arguments of laws.
-/
import Derived.Test.YtickdhdlljhomaaBR
import Derived.Test.YtickdhdlljhomaaB10
set_option linter.unusedSimpArgs false
set_option linter.unusedVariables false
namespace Go.Proofs.Ytickdhdlljhomaa.Ev
open Go

section
variable {H : Type} {enc : TypeId × Value → H} {P : Program} {W : World}

theorem fsl_cells {g : G} {st : St} {sz : Nat} {l : List V} {x : Value} (h : R g (.fsl st sz l) x) : x.cells.toList = [x] := by
  simp only [R] at h
  obtain ⟨a, cap, xs, rfl, _⟩ := h
  rfl

theorem row_rows {t e q : TypeId} {a : Option Addr} {len cap : Nat} {d : DataW H} {ps : List MemPlace} (ht : P.underlying t = some (.slice e)) (he : P.underlying e = some (.slice q)) (hq : P.underlying q = some .bool) (ce : P.cellsOf e = 1) (cq : P.cellsOf q = 1)
    (h : DataW.Trod enc P W 0 (fun _ => true) true t (.slice a len cap) d ps) : ∃ st r, R (gW W) (.fsl st 1 (rv r)) (.slice a len cap) := by
  obtain ⟨fuel, hf⟩ := h
  let T := { p : (St × List Bool) × Value // R (gW W) (.fsl p.1.1 1 (bv p.1.2)) p.2 }
  have key : ∀ Z : Nat → T, ((a = none ∧ len = 0 ∧ cap = 0) ∨ ∃ b, a = some b ∧ len ≤ cap ∧ ∀ i, i < len → W.cell? (b.add i) = some (Z i).1.2) → ∃ st r, R (gW W) (.fsl st 1 (rv r)) (.slice a len cap) := by
    intro Z hZ
    obtain ⟨st, k, _⟩ := open_cells (w := W) (fun p : T => V.fsl p.1.1.1 1 (bv p.1.1.2)) (fun p : T => p.1.2) (fun p => fsl_cells p.2) (fun _ => rfl) (fun _ => rfl) (fun p => p.2) Z hZ
    refine ⟨st, ((List.range len).map Z).map (fun p => p.1.1), ?_⟩
    have e : rv (((List.range len).map Z).map (fun p => p.1.1)) = ((List.range len).map Z).map (fun p : T => V.fsl p.1.1.1 1 (bv p.1.1.2)) := by
      rw [rv, List.map_map]; rfl
    rw [e]; exact k
  have z0 : T := ⟨((.nil, []), .slice none 0 0), by simp only [R]; exact ⟨none, 0, [], rfl, by simp [bv, RL], by simp [bv], by simp [bv], by simp, ⟨by simp, by simp⟩, by simp, .inl rfl⟩⟩
  rcases Deep.open_bool_rows ht he hq ce cq hf with ⟨hcs, _⟩ | ⟨x, l, c, A, L, C, B, hcs, _, hl, hm, _, hrow⟩
  · simp [Value.cells] at hcs
    exact key (fun _ => z0) (.inl hcs)
  · simp [Value.cells] at hcs
    obtain ⟨rfl, rfl, rfl⟩ := hcs
    have each : ∀ i, ∃ z : T, i < len → z.1.2 = .slice (A i) (L i) (C i) := by
      intro i
      by_cases hi : i < len
      · obtain ⟨h1, h2, h3, h4, h5⟩ := hrow i (by omega)
        obtain ⟨st, k, _⟩ := open_cells (w := W) (a := A i) (len := L i) (cap := C i) V.bool Value.bool (fun _ => rfl) (fun _ => rfl) (fun _ => rfl) (fun _ => by simp [R]) (B i) (by
          cases hA : A i with
          | none => exact .inl ⟨rfl, by have := h4 hA; omega, h4 hA⟩
          | some b => exact .inr ⟨b, rfl, h2, fun j hj => (h5 b hA).2 j (by omega)⟩)
        exact ⟨⟨((st, (List.range (L i)).map (B i)), _), k⟩, fun _ => rfl⟩
      · exact ⟨z0, fun h => absurd h hi⟩
    obtain ⟨Z, hZ⟩ := Classical.axiomOfChoice each
    exact key Z (.inr ⟨x, rfl, hl, fun i hi => by rw [(hrow i (by omega)).1, hZ i hi]⟩)

end

end Go.Proofs.Ytickdhdlljhomaa.Ev
