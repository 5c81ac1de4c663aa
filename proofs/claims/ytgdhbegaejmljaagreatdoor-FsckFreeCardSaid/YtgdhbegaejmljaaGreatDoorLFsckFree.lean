/-
  The statement FsckFree, as a row.
-/
import Derived.Test.YtgdhbegaejmljaaGreatDoorM6
import Derived.Test.YtgdhbegaejmljaaGreatDoorRows
import Derived.Test.YtgdhbegaejmljaaGreatDoorTie
import Derived.Test.YtgdhbegaejmljaaGreatDoorCards
import Derived.LaidLaws
import Derived.LaidHandle
import Derived.Handed
import Derived.Stop.Joined
import Derived.Lib.LaidTab
import Derived.Lib.ItoaNum
import Derived.Stop.LaidErr
import Derived.SevenTiedAt
import Derived.WalkKit
import Derived.ProofKit
import Derived.OpenShut
import Derived.ShutString
import Derived.ChangeOld
import Derived.SizedLaws
import Derived.Deep.Grids
namespace Go.Proofs.YtgdhbegaejmljaaGreatDoor.LFsckFree
open Go.ChangeShapes Go.WideShapes Go.ChangeAt Go.RowKit Go.Proofs.YtgdhbegaejmljaaGreatDoor.Ev
set_option linter.unusedVariables false
set_option linter.unusedSimpArgs false

theorem own : ownKnob Tryz.prog.godebug = none := by kernel_rfl
theorem laidOut : laidOutB Tryz.prog = true := by kernel_rfl

def litV : DataW Unit → List Value
  | .agg l => l.flatMap fun d => match d with | .lit (.int k z) => [.int k z] | .agg m => (m.filterMap fun e => match e with | .lit (.int k z) => some (.int k z) | _ => none) | _ => []
  | _ => []
/-- A world in which the listed variables hold what they must. -/
noncomputable def laidWorld (os : Os) : World :=
  { World.holding Tryz.prog os ⟨#[], #[], []⟩ with heap := (((World.holding Tryz.prog os ⟨#[], #[], []⟩).heap.modify 2 fun
      | .cells _ t frozen => .cells (litV Rows.laid_unicode_utf8_acceptRanges).toArray t frozen
      | o => o).modify 1 fun
      | .cells _ t frozen => .cells (litV Rows.laid_unicode_utf8_first).toArray t frozen
      | o => o) }
theorem laidWorld_met (os : Os) (args : Array Value) : laidMetH Tryz.prog Rows.fsckFreeRow.laid ((laidWorld os).forCall (fun _ _ => 0) ⟨#[], args, []⟩).memory :=
  laidMet_of_run' 8 (by kernel_rfl) (by kernel_rfl)
theorem laid_of {W : World} (h : laidMetH Tryz.prog Rows.fsckFreeRow.laid W) : Laid W := by
  intro p hp
  cases hp

set_option maxRecDepth 100000 in
theorem lifted (os : Os) (started : os.Started) (H : Type) (enc : TypeId × Value → H) :
    ReturnsInHanded {} Tryz.checked os 4 .any (fun w args => (Rows.fsckFreeSpec.pre enc Tryz.prog Tryz.f4 Rows.fsckFreeRow.domain false w args ∧ laidMetH Tryz.prog Rows.fsckFreeRow.laid w) ∧ sizedMet enc Tryz.prog Tryz.f4 (OpenSpec.ofChange Rows.fsckFreeSpec) false w args) (Rows.fsckFreeSpec.post enc Tryz.prog Tryz.f4 false true false false) := by
  refine returnsInHanded_of_change_and (C := Tryz.checked) (X := fun w _ => laidMetH Tryz.prog Rows.fsckFreeRow.laid w) (fun _ _ _ hh h => h.of_heap hh) own started (by kernel_rfl) Tryz.func4
    (ChangeSpec.witness_at (enc := enc) (C := Tryz.checked) (os := os) (X := fun w _ => laidMetH Tryz.prog Rows.fsckFreeRow.laid w) false (laidWorld os) #[.agg #[.slice none 0 0, .slice none 0 0], .int .i64 0, .string ByteArray.empty] 8 rfl (by kernel_rfl) (by kernel_rfl) (by kernel_rfl) (by kernel_rfl) (by kernel_rfl) (laidWorld_met os _)) ?_
  intro W base args ds gs before hval0 hW hcnd hsz0 hL _
  have hsz : (DataW.weightsEach Tryz.prog (Tryz.f4.params.toList ++ Rows.fsckFreeSpec.plain.varTypes Tryz.prog) (ds ++ gs)).all (· ≤ reachBytes) = true := hsz0
  have hval : ∀ (j : Nat) t v, Tryz.f4.params[j]? = some t → args[j]? = some v → Value.okWide Tryz.prog W .any base t v := hval0
  have hW' := hW
  obtain ⟨p, q, hA0, hV, rfl, hfz, hnd⟩ := hW
  have hA : DataW.TrodAll enc Tryz.prog W 0 (fun _ => true) true Tryz.f4.params.toList args.toList ds p := hA0
  rw [Tryz.params4] at hA hval hsz
  obtain ⟨v0, vs0, d0, ds0, p0, q0, hargs, rfl, rfl, h0, r0⟩ := trodAll_cons hA
  obtain ⟨v1, vs1, d1, ds1, p1, q1, rfl, rfl, rfl, h1, r1⟩ := trodAll_cons r0
  obtain ⟨v2, vs2, d2, ds2, p2, q2, rfl, rfl, rfl, h2, r2⟩ := trodAll_cons r1
  obtain ⟨rfl, rfl, rfl⟩ := trodAll_nil r2
  obtain rfl : args = #[v0, v1, v2] := by cases args; simp_all
  obtain ⟨rfl, rfl⟩ := trodVars_none hV
  have lt0 : ∀ x ∈ p0, x.block < W.heap.size := by obtain ⟨m, hm⟩ := h0; exact DataW.trod_lt m _ _ _ hm
  obtain ⟨us0, w0, y0⟩ := e7d (T := tDev) (by kernel_rfl) (hval 0 25 v0 rfl rfl) h0 (e7b hsz (j := 0) (t := 25) rfl rfl)
  obtain ⟨d, rfl, hd⟩ := e9t y0
  have lt1 : ∀ x ∈ p1, x.block < W.heap.size := by obtain ⟨m, hm⟩ := h1; exact DataW.trod_lt m _ _ _ hm
  obtain ⟨us1, w1, y1⟩ := e7d (T := tI) (by kernel_rfl) (hval 1 3 v1 rfl rfl) h1 (e7b hsz (j := 1) (t := 3) rfl rfl)
  obtain ⟨k, rfl, hk⟩ := e7v y1
  have lt2 : ∀ x ∈ p2, x.block < W.heap.size := by obtain ⟨m, hm⟩ := h2; exact DataW.trod_lt m _ _ _ hm
  obtain ⟨us2, w2, y2⟩ := e7d (T := .s) (by kernel_rfl) (hval 2 9 v2 rfl rfl) h2 (e7b hsz (j := 2) (t := 9) rfl rfl)
  obtain ⟨s, rfl, hs⟩ := e4h y2
  clear hA0 hval0 hsz0 hsz
  refine (e5m (e7c d k s hd.1 hd.2 hk hs) (W := W) ?_ (laid_of hL)).mono fun e W' ⟨he, bel⟩ => ?_
  · simp only [RC]
    exact ⟨_, _, rfl, w0, _, _, rfl, w1, _, _, rfl, w2, rfl⟩
  subst he
  exact ⟨_, rfl, _, _, _, [], _, [], hW', trodAll_mk1 (shut_bool Tryz.underlying4 _), (trodAll_cons_mk (Below.trod laidOut (by kernel_rfl) (of_decide_eq_true (by kernel_rfl)) h0 bel lt0) (trodAll_cons_mk (Below.trod laidOut (by kernel_rfl) (of_decide_eq_true (by kernel_rfl)) h1 bel lt1) (trodAll_cons_mk (Below.trod laidOut (by kernel_rfl) (of_decide_eq_true (by kernel_rfl)) h2 bel lt2) trodAll_mk0))), rfl, bel.frame _, fun h => by cases h⟩

theorem over : Rows.fsckFreeRow.holds Tryz.pinned (OpenSpec.ofChange Rows.fsckFreeSpec) :=
  OpenClaim.holds_of_wide 4 Tryz.f4 rfl rfl rfl rfl rfl rfl rfl ⟨rfl, rfl, rfl, rfl, rfl⟩ rfl rfl rfl rfl rfl (by kernel_rfl) Tryz.func4 (by kernel_rfl)
    (of_decide_eq_true (by kernel_rfl)) (by unfold Func.isWrapper; first | (rw [if_pos (by decide +kernel)]; kernel_rfl) | (rw [if_neg (by decide +kernel)]; exact ⟨rfl, rfl⟩))
    (fun os started H enc _ => lifted os started H enc)
theorem proved : Rows.FsckFreeCardSaid :=
  Claim7.holds_tied_plain_at .later [] [.data, .pinned] true (true, "fb5bbd697cbfd84b6612421afcbd2bac7148ea7b6fb57b9c1d5b8ff9cf080460") false over (fun _ h => by cases h) (by kernel_rfl) (fun _ h => by cases h) fsckFree_row_tie rfl ⟨rfl, rfl⟩ (by kernel_rfl) rfl
    (fun f fn hf hfn => by
      obtain rfl : f = 4 := (Option.some.inj ((show Tryz.prog.funcNamed Rows.fsckFreeRow.func = some 4 by kernel_rfl).symm.trans hf)).symm
      obtain rfl : fn = Tryz.f4 := (Option.some.inj (Tryz.func4.symm.trans hfn)).symm
      exact ⟨by kernel_rfl, fun j t ht => by
        rw [Tryz.params4] at ht
        have hm : t ∈ (Tryz.f4.params.toList) := by rw [Tryz.params4]; exact List.mem_of_getElem? (by simpa using ht)
        have hall : Tryz.f4.params.toList.all (fun t => Tryz.prog.wantsStandIn t == false) = true := by kernel_rfl
        exact (by simpa using List.all_eq_true.1 hall t hm : Tryz.prog.wantsStandIn t = false)⟩)
    (by kernel_rfl)
#print axioms proved
end Go.Proofs.YtgdhbegaejmljaaGreatDoor.LFsckFree
namespace Go.Proofs.YtgdhbegaejmljaaGreatDoor
/-- The row, under a short name, for the claim. -/
theorem fsckFree_holds : Rows.FsckFreeCardSaid := YtgdhbegaejmljaaGreatDoor.LFsckFree.proved
end Go.Proofs.YtgdhbegaejmljaaGreatDoor
