/-
  The statement ScriptPrints, as a row.
-/
import Derived.Test.YtnglmdheiabdcaaDoorM4
import Derived.Test.YtnglmdheiabdcaaDoorRows
import Derived.Test.YtnglmdheiabdcaaDoorTie
import Derived.Test.YtnglmdheiabdcaaDoorCards
import Derived.LaidLaws
import Derived.LaidHandle
import Derived.Handed
import Derived.Stop.Joined
import Derived.Lib.LaidTab
import Derived.Lib.ItoaNum
import Derived.Stop.LaidErr
import Derived.SevenTiedAt
import Derived.WalkKit
import Derived.ProofKit
import Derived.OpenShut
import Derived.ShutString
import Derived.ChangeOld
import Derived.SizedLaws
import Derived.Deep.Grids
namespace Go.Proofs.YtnglmdheiabdcaaDoor.LScriptPrints
open Go.ChangeShapes Go.WideShapes Go.ChangeAt Go.RowKit Go.Proofs.YtnglmdheiabdcaaDoor.Ev
set_option linter.unusedVariables false
set_option linter.unusedSimpArgs false

theorem own : ownKnob Tryd.prog.godebug = none := by kernel_rfl
theorem laidOut : laidOutB Tryd.prog = true := by kernel_rfl

def litV : DataW Unit → List Value
  | .agg l => l.filterMap fun d => match d with | .lit (.int k z) => some (.int k z) | _ => none
  | _ => []
/-- A world in which the listed variables hold what they must. -/
noncomputable def laidWorld (os : Os) : World :=
  { World.holding Tryd.prog os ⟨#[], #[], []⟩ with heap := ((((World.holding Tryd.prog os ⟨#[], #[], []⟩).heap.modify 0 fun
      | .cells _ t frozen => .cells (litV Rows.laid_internal_strconv_uint64pow10).toArray t frozen
      | o => o).modify 2 fun
      | .cells _ t frozen => .cells (litV Rows.laid_math_bits_deBruijn32tab).toArray t frozen
      | o => o).modify 3 fun
      | .cells _ t frozen => .cells (litV Rows.laid_math_bits_deBruijn64tab).toArray t frozen
      | o => o) }
theorem laidWorld_met (os : Os) (args : Array Value) : laidMetH Tryd.prog Rows.scriptPrintsRow.laid ((laidWorld os).forCall (fun _ _ => 0) ⟨#[], args, []⟩).memory :=
  laidMet_of_run' 8 (by kernel_rfl) (by kernel_rfl)
theorem laid_of {W : World} (h : laidMetH Tryd.prog Rows.scriptPrintsRow.laid W) : Laid W := by
  have h1 : laidMet Tryd.prog Rows.scriptPrintsRow.laid W := h
  have hg : Tryd.prog.globalNamed "internal/strconv.uint64pow10" = some 0 := by kernel_rfl
  have e : (Rows.laid_internal_strconv_uint64pow10 : DataW Unit) = Lib.tabData .u64 Lib.pow10Tab := by kernel_rfl
  have h2 : laidMet Tryd.prog [("internal/strconv.uint64pow10", Rows.laid_internal_strconv_uint64pow10)] W := h1.tail.tail
  rw [e] at h2
  have ht := Lib.tabIs_of_head (t := 97) hg (by kernel_rfl) Tryd.underlying97 Tryd.underlying74 (by kernel_rfl) (by kernel_rfl) h2
  unfold Lib.TabIs World.var? at ht
  rw [hg] at ht
  simp only [Option.bind_some] at ht
  intro p hp
  obtain rfl := List.mem_singleton.1 hp
  refine ⟨Lib.pow10Tab.map fun z => Value.int .u64 z, ?_, rfl⟩
  simp only [gW]
  split at ht
  · rename_i cs _ _ hb
    simp only [Option.some.injEq] at ht
    rw [hb, ht]
  · cases ht

set_option maxRecDepth 100000 in
theorem lifted (os : Os) (started : os.Started) (H : Type) (enc : TypeId × Value → H) :
    ReturnsInHanded {} Tryd.checked os 3 .any (fun w args => (Rows.scriptPrintsSpec.pre enc Tryd.prog Tryd.f3 Rows.scriptPrintsRow.domain false w args ∧ laidMetH Tryd.prog Rows.scriptPrintsRow.laid w) ∧ sizedMet enc Tryd.prog Tryd.f3 (OpenSpec.ofChange Rows.scriptPrintsSpec) false w args) (Rows.scriptPrintsSpec.post enc Tryd.prog Tryd.f3 false true false false) := by
  refine returnsInHanded_of_change_and (C := Tryd.checked) (X := fun w _ => laidMetH Tryd.prog Rows.scriptPrintsRow.laid w) (fun _ _ _ hh h => h.of_heap hh) own started (by kernel_rfl) Tryd.func3
    (ChangeSpec.witness_at (enc := enc) (C := Tryd.checked) (os := os) (X := fun w _ => laidMetH Tryd.prog Rows.scriptPrintsRow.laid w) false (laidWorld os) #[.agg #[.int .i64 0, .slice none 0 0]] 8 rfl (by kernel_rfl) (by kernel_rfl) (by kernel_rfl) (by kernel_rfl) (by kernel_rfl) (laidWorld_met os _)) ?_
  intro W base args ds gs before hval0 hW hcnd hsz0 hL _
  have hsz : (DataW.weightsEach Tryd.prog (Tryd.f3.params.toList ++ Rows.scriptPrintsSpec.plain.varTypes Tryd.prog) (ds ++ gs)).all (· ≤ reachBytes) = true := hsz0
  have hval : ∀ (j : Nat) t v, Tryd.f3.params[j]? = some t → args[j]? = some v → Value.okWide Tryd.prog W .any base t v := hval0
  have hW' := hW
  obtain ⟨p, q, hA0, hV, rfl, hfz, hnd⟩ := hW
  have hA : DataW.TrodAll enc Tryd.prog W 0 (fun _ => true) true Tryd.f3.params.toList args.toList ds p := hA0
  rw [Tryd.params3] at hA hval hsz
  obtain ⟨v0, vs0, d0, ds0, p0, q0, hargs, rfl, rfl, h0, r0⟩ := trodAll_cons hA
  obtain ⟨rfl, rfl, rfl⟩ := trodAll_nil r0
  obtain rfl : args = #[v0] := by cases args; simp_all
  obtain ⟨rfl, rfl⟩ := trodVars_none hV
  have lt0 : ∀ x ∈ p0, x.block < W.heap.size := by obtain ⟨m, hm⟩ := h0; exact DataW.trod_lt m _ _ _ hm
  obtain ⟨us0, w0, y0⟩ := open_arg (T := tPln) (by kernel_rfl) (hval 0 24 v0 rfl rfl) h0 (sized_at hsz (j := 0) (t := 24) rfl rfl)
  obtain ⟨p, rfl, hp⟩ := pln_of y0
  clear hA0 hval0 hsz0 hsz
  refine (law_calls (row_prints p hp) (W := W) ?_ (laid_of hL)).mono fun e W' ⟨he, bel⟩ => ?_
  · simp only [RC]
    exact ⟨_, _, rfl, w0, rfl⟩
  subst he
  exact ⟨_, rfl, _, _, _, [], _, [], hW', trodAll_mk1 (shut_bool Tryd.underlying4 _), (trodAll_cons_mk (Below.trod laidOut (by kernel_rfl) (of_decide_eq_true (by kernel_rfl)) h0 bel lt0) trodAll_mk0), rfl, bel.frame _, fun h => by cases h⟩

theorem over : Rows.scriptPrintsRow.holds Tryd.pinned (OpenSpec.ofChange Rows.scriptPrintsSpec) :=
  OpenClaim.holds_of_wide 3 Tryd.f3 rfl rfl rfl rfl rfl rfl rfl ⟨rfl, rfl, rfl, rfl, rfl⟩ rfl rfl rfl rfl rfl (by kernel_rfl) Tryd.func3 (by kernel_rfl)
    (of_decide_eq_true (by kernel_rfl)) (by unfold Func.isWrapper; first | (rw [if_pos (by decide +kernel)]; kernel_rfl) | (rw [if_neg (by decide +kernel)]; exact ⟨rfl, rfl⟩))
    (fun os started H enc _ => lifted os started H enc)
theorem proved : Rows.ScriptPrintsCardSaid :=
  Claim7.holds_tied_plain_at .later [] [.data, .data, .data] true (true, "50e8fb2d9f26aa50139a26753a58ea69d2b309cca99ba25a6e628909501c7a52") false over (fun _ h => by cases h) (by kernel_rfl) (fun _ h => by cases h) scriptPrints_row_tie rfl ⟨rfl, rfl⟩ (by kernel_rfl) rfl
    (fun f fn hf hfn => by
      obtain rfl : f = 3 := (Option.some.inj ((show Tryd.prog.funcNamed Rows.scriptPrintsRow.func = some 3 by kernel_rfl).symm.trans hf)).symm
      obtain rfl : fn = Tryd.f3 := (Option.some.inj (Tryd.func3.symm.trans hfn)).symm
      exact ⟨by kernel_rfl, fun j t ht => by
        rw [Tryd.params3] at ht
        have hm : t ∈ (Tryd.f3.params.toList) := by rw [Tryd.params3]; exact List.mem_of_getElem? (by simpa using ht)
        have hall : Tryd.f3.params.toList.all (fun t => Tryd.prog.wantsStandIn t == false) = true := by kernel_rfl
        exact (by simpa using List.all_eq_true.1 hall t hm : Tryd.prog.wantsStandIn t = false)⟩)
    (by kernel_rfl)
#print axioms proved
end Go.Proofs.YtnglmdheiabdcaaDoor.LScriptPrints
namespace Go.Proofs.YtnglmdheiabdcaaDoor
/-- The row, under a short name, for the claim. -/
theorem scriptPrints_holds : Rows.ScriptPrintsCardSaid := YtnglmdheiabdcaaDoor.LScriptPrints.proved
end Go.Proofs.YtnglmdheiabdcaaDoor
