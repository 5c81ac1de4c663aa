/-
  The statement WorldTicks, as a row.
-/
import Derived.Test.YtkdeckmglbnfbaaGreatM5
import Derived.Test.YtkdeckmglbnfbaaGreatRows
import Derived.WalkKit
import Derived.ProofKit
import Derived.OpenShut
import Derived.ShutString
import Derived.ChangeOld
import Derived.SizedLaws
import Derived.Deep.Grids
namespace Go.Proofs.YtkdeckmglbnfbaaGreat.LWorldTicks
open Go.ChangeShapes Go.WideShapes Go.ChangeAt Go.RowKit Go.Proofs.YtkdeckmglbnfbaaGreat.Ev
set_option linter.unusedVariables false
set_option linter.unusedSimpArgs false

theorem own : ownKnob Tryz.prog.godebug = none := by kernel_rfl
theorem laidOut : laidOutB Tryz.prog = true := by kernel_rfl

set_option maxRecDepth 100000 in
theorem lifted (os : Os) (started : os.Started) (H : Type) (enc : TypeId × Value → H) :
    ReturnsInHanded {} Tryz.checked os 6 .any (Rows.worldTicksSpec.pre6 enc Tryz.prog Tryz.f6 Rows.worldTicksRow.domain false) (Rows.worldTicksSpec.post enc Tryz.prog Tryz.f6 false true false false) := by
  refine returnsInHanded_of_change_sized (C := Tryz.checked) own started (by kernel_rfl) Tryz.func6
    (ChangeSpec.witness6 (enc := enc) (C := Tryz.checked) false ⟨#[], #[.agg #[.int .i64 0, .int .i64 0, .slice none 0 0, .slice none 0 0], .int .i64 0, .int .i64 0, .string ByteArray.empty], []⟩ 8 (by kernel_rfl) (by kernel_rfl) (by kernel_rfl) (by kernel_rfl)) ?_
  intro W base args ds gs before hval0 hW hcnd hsz0 _
  have hsz : (DataW.weightsEach Tryz.prog (Tryz.f6.params.toList ++ Rows.worldTicksSpec.plain.varTypes Tryz.prog) (ds ++ gs)).all (· ≤ reachBytes) = true := hsz0
  have hval : ∀ (j : Nat) t v, Tryz.f6.params[j]? = some t → args[j]? = some v → Value.okWide Tryz.prog W .any base t v := hval0
  have hW' := hW
  obtain ⟨p, q, hA0, hV, rfl, hfz, hnd⟩ := hW
  have hA : DataW.TrodAll enc Tryz.prog W 0 (fun _ => true) true Tryz.f6.params.toList args.toList ds p := hA0
  rw [Tryz.params6] at hA hval hsz
  obtain ⟨v0, vs0, d0, ds0, p0, q0, hargs, rfl, rfl, h0, r0⟩ := trodAll_cons hA
  obtain ⟨v1, vs1, d1, ds1, p1, q1, rfl, rfl, rfl, h1, r1⟩ := trodAll_cons r0
  obtain ⟨v2, vs2, d2, ds2, p2, q2, rfl, rfl, rfl, h2, r2⟩ := trodAll_cons r1
  obtain ⟨v3, vs3, d3, ds3, p3, q3, rfl, rfl, rfl, h3, r3⟩ := trodAll_cons r2
  obtain ⟨rfl, rfl, rfl⟩ := trodAll_nil r3
  obtain rfl : args = #[v0, v1, v2, v3] := by cases args; simp_all
  obtain ⟨rfl, rfl⟩ := trodVars_none hV
  have lt0 : ∀ x ∈ p0, x.block < W.heap.size := by obtain ⟨m, hm⟩ := h0; exact DataW.trod_lt m _ _ _ hm
  obtain ⟨us0, w0, y0⟩ := open_arg (T := tWd) (by kernel_rfl) (hval 0 25 v0 rfl rfl) h0 (sized_at hsz (j := 0) (t := 25) rfl rfl)
  obtain ⟨w, rfl, hw⟩ := wd_of y0
  have lt1 : ∀ x ∈ p1, x.block < W.heap.size := by obtain ⟨m, hm⟩ := h1; exact DataW.trod_lt m _ _ _ hm
  obtain ⟨us1, w1, y1⟩ := open_arg (T := .i .i64) (by kernel_rfl) (hval 1 3 v1 rfl rfl) h1 (sized_at hsz (j := 1) (t := 3) rfl rfl)
  obtain ⟨a, rfl⟩ := i_of y1
  have lt2 : ∀ x ∈ p2, x.block < W.heap.size := by obtain ⟨m, hm⟩ := h2; exact DataW.trod_lt m _ _ _ hm
  obtain ⟨us2, w2, y2⟩ := open_arg (T := .i .i64) (by kernel_rfl) (hval 2 3 v2 rfl rfl) h2 (sized_at hsz (j := 2) (t := 3) rfl rfl)
  obtain ⟨b, rfl⟩ := i_of y2
  have lt3 : ∀ x ∈ p3, x.block < W.heap.size := by obtain ⟨m, hm⟩ := h3; exact DataW.trod_lt m _ _ _ hm
  obtain ⟨us3, w3, y3⟩ := open_arg (T := .s) (by kernel_rfl) (hval 3 9 v3 rfl rfl) h3 (sized_at hsz (j := 3) (t := 9) rfl rfl)
  obtain ⟨s, rfl, _⟩ := s_of y3
  clear hA0 hval0 hsz0 hsz
  refine (law_calls (row_ticks w a b s hw) (W := W) ?_).mono fun e W' ⟨he, bel⟩ => ?_
  · simp only [RC]
    exact ⟨_, _, rfl, w0, _, _, rfl, w1, _, _, rfl, w2, _, _, rfl, w3, rfl⟩
  subst he
  exact ⟨_, rfl, _, _, _, [], _, [], hW', trodAll_mk1 (shut_bool Tryz.underlying4 _), (trodAll_cons_mk (Below.trod laidOut (by kernel_rfl) (of_decide_eq_true (by kernel_rfl)) h0 bel lt0) (trodAll_cons_mk (Below.trod laidOut (by kernel_rfl) (of_decide_eq_true (by kernel_rfl)) h1 bel lt1) (trodAll_cons_mk (Below.trod laidOut (by kernel_rfl) (of_decide_eq_true (by kernel_rfl)) h2 bel lt2) (trodAll_cons_mk (Below.trod laidOut (by kernel_rfl) (of_decide_eq_true (by kernel_rfl)) h3 bel lt3) trodAll_mk0)))), rfl, bel.frame _, fun h => by cases h⟩

theorem over : Rows.worldTicksRow.holds Tryz.pinned (OpenSpec.ofChange Rows.worldTicksSpec) :=
  OpenClaim.holds_of_wide 6 Tryz.f6 rfl rfl rfl rfl rfl rfl rfl ⟨rfl, rfl, rfl, rfl, rfl⟩ rfl rfl rfl rfl rfl (by kernel_rfl) Tryz.func6 (by kernel_rfl)
    (of_decide_eq_true (by kernel_rfl)) (by unfold Func.isWrapper; first | (rw [if_pos (by decide +kernel)]; kernel_rfl) | (rw [if_neg (by decide +kernel)]; exact ⟨rfl, rfl⟩))
    (fun os started H enc _ => lifted os started H enc)
theorem proved : Rows.WorldTicksSaid := over
#print axioms proved
end Go.Proofs.YtkdeckmglbnfbaaGreat.LWorldTicks
namespace Go.Proofs.YtkdeckmglbnfbaaGreat
/-- The row, under a short name, for the claim. -/
theorem worldTicks_holds : Rows.WorldTicksSaid := YtkdeckmglbnfbaaGreat.LWorldTicks.proved
end Go.Proofs.YtkdeckmglbnfbaaGreat
