/-
  The statement ScriptBack (where what it reads is of bulk at most 1048576), as a row and a card.
-/
import Derived.Test.YtnglmdheiabdcaaGreatDoorM4
import Derived.Test.YtnglmdheiabdcaaGreatDoorRows
import Derived.Test.YtnglmdheiabdcaaGreatDoorTie
import Derived.Test.YtnglmdheiabdcaaGreatDoorCards
import Derived.LaidLaws
import Derived.LaidHandle
import Derived.Handed
import Derived.Stop.Joined
import Derived.Lib.LaidTab
import Derived.Lib.ItoaNum
import Derived.Stop.LaidErr
import Derived.SevenTiedAt
import Derived.WalkKit
import Derived.ProofKit
import Derived.OpenShut
import Derived.ShutString
import Derived.ChangeOld
import Derived.ChangeMaps5
import Derived.SizedLaws
import Derived.Deep.Grids
import Derived.Deep.DeepHandedRow
import Derived.Deep.DeepWitnessRowRef
import Derived.Shelf.Vars
namespace Go.Proofs.YtnglmdheiabdcaaGreatDoor.LScriptBackUpto
open Go.ChangeShapes Go.WideShapes Go.ChangeAt Go.RowKit Go.Proofs.YtnglmdheiabdcaaGreatDoor.Ev
set_option linter.unusedVariables false
set_option linter.unusedSimpArgs false

theorem own : ownKnob Tryz.prog.godebug = none := by kernel_rfl
theorem laidOut : laidOutB Tryz.prog = true := by kernel_rfl

def litV : DataW Unit → List Value
  | .agg l => l.flatMap fun d => match d with
    | .lit (.int k z) => [.int k z]
    | .agg l' => l'.filterMap fun e => match e with | .lit (.int k z) => some (.int k z) | _ => none
    | _ => []
  | _ => []
noncomputable def low : Nat := (World.holding Tryz.prog default ⟨#[], #[], []⟩).heap.size
/-- A world in which the listed variables hold what they must. -/
noncomputable def laidWorld (os : Os) : World :=
  let w0 := World.holding Tryz.prog os ⟨#[.cells #[.string ⟨#[118, 97, 108, 117, 101, 32, 111, 117, 116, 32, 111, 102, 32, 114, 97, 110, 103, 101]⟩] 153, .cells #[.string ⟨#[105, 110, 118, 97, 108, 105, 100, 32, 115, 121, 110, 116, 97, 120]⟩] 153], #[], []⟩
  { w0 with heap := (((((((w0.heap.modify 6 fun
      | .cells _ t frozen => .cells (litV Rows.laid_math_bits_deBruijn32tab).toArray t frozen
      | o => o).modify 7 fun
      | .cells _ t frozen => .cells (litV Rows.laid_math_bits_deBruijn64tab).toArray t frozen
      | o => o).modify 3 fun
      | .cells _ t frozen => .cells (litV Rows.laid_internal_strconv_uint64pow10).toArray t frozen
      | o => o).modify 5 fun
      | .cells _ t frozen => .cells (litV Rows.laid_unicode_utf8_acceptRanges).toArray t frozen
      | o => o).modify 4 fun
      | .cells _ t frozen => .cells (litV Rows.laid_unicode_utf8_first).toArray t frozen
      | o => o).modify 2 fun
      | .cells _ t frozen => .cells #[.iface 151 (.pointer (some ⟨low, 0, none⟩))] t frozen
      | o => o).modify 1 fun
      | .cells _ t frozen => .cells #[.iface 151 (.pointer (some ⟨low + 1, 0, none⟩))] t frozen
      | o => o) }
theorem laidWorld_met (os : Os) (args : Array Value) : laidMet Tryz.prog Rows.scriptBackUptoRow.laid ((laidWorld os).forCall (fun _ _ => 0) ⟨#[], args, []⟩).memory :=
  laidMet_of_run' 8 (by kernel_rfl) (by kernel_rfl)
theorem star : "*" ++ "errors.errorString" = "*errors.errorString" := by decide
theorem rowS (u : TypeId) (h : Tryz.prog.typeName? 3 u = some "*errors.errorString") : u = 151 :=
  typeName_ptr_named (nm := "errors.errorString") (by rw [star]; kernel_rfl) (by kernel_rfl) (by decide) u (by rw [star]; exact h)
theorem laid_of {W : World} (h : laidMetH Tryz.prog Rows.scriptBackUptoRow.laid W) (hs : W.ShapedOpen Tryz.prog) : Laid W := by
  have h1 : laidMet Tryz.prog Rows.scriptBackUptoRow.laid W := h
  have cells : ∀ {n : String} {g : Nat} {cs : Array Value}, Tryz.prog.globalNamed n = some g → W.var? Tryz.prog n = some cs → (gW W).F g = some cs.toList := fun hg hv => by
    unfold World.var? at hv
    rw [hg] at hv
    simp only [Option.bind_some] at hv
    simp only [gW]
    split at hv
    · rename_i cs _ _ hb
      simp only [Option.some.injEq] at hv
      rw [hb, hv]
    · cases hv
  have g3 : Tryz.prog.globalNamed "internal/strconv.uint64pow10" = some 3 := by kernel_rfl
  have e : (Rows.laid_internal_strconv_uint64pow10 : DataW Unit) = Lib.tabData .u64 Lib.pow10Tab := by kernel_rfl
  have h2 := h1.tail.tail
  rw [e] at h2
  have ht := Lib.tabIs_of_head (t := 144) g3 (by kernel_rfl) Tryz.underlying144 Tryz.underlying110 (by kernel_rfl) (by kernel_rfl) h2
  have g2 : Tryz.prog.globalNamed "strconv.ErrRange" = some 2 := by kernel_rfl
  have g1 : Tryz.prog.globalNamed "strconv.ErrSyntax" = some 1 := by kernel_rfl
  have hn : ∀ u, Tryz.prog.typeName? 3 u = some "*errors.errorString" → u = 151 := rowS
  obtain ⟨a2, s2, v2, _⟩ := laid_sentinel (h1.tail.tail.tail.tail) g2 (by kernel_rfl) Tryz.underlying64 hn Tryz.underlying151 Tryz.underlying153 rfl rfl Tryz.underlying9 (by kernel_rfl) (by kernel_rfl)
  obtain ⟨a1, s1, v1, _⟩ := laid_sentinel (h1.tail.tail.tail.tail.tail) g1 (by kernel_rfl) Tryz.underlying64 hn Tryz.underlying151 Tryz.underlying153 rfl rfl Tryz.underlying9 (by kernel_rfl) (by kernel_rfl)
  obtain ⟨cs, hh, hz, _⟩ := hs.1 0 #[.int .i64 0] 3 (of_decide_eq_true (by kernel_rfl)) (by kernel_rfl)
  obtain ⟨m, hm⟩ := cell_of_shapedOpen_int (zero := #[.int .i64 0]) (t := 3) (g := 0) (k := .i64) hs (of_decide_eq_true (by kernel_rfl)) (by kernel_rfl) rfl (by kernel_rfl) (by kernel_rfl) Tryz.underlying3
  have h0 : (gW W).F 0 = some [.int .i64 m] := by
    simp only [gW, hh]
    obtain ⟨l⟩ := cs
    simp only [World.cell?, hh] at hm
    match l, hz with
    | [x], _ => simp at hm; rw [hm]
  intro p hp
  simp only [theTabs, List.mem_cons, List.not_mem_nil, or_false] at hp
  rcases hp with rfl | rfl | rfl | rfl
  · exact ⟨_, h0, m, rfl⟩
  · exact ⟨_, cells g1 v1, _, rfl, .inr ⟨_, _, rfl⟩⟩
  · exact ⟨_, cells g2 v2, _, rfl, .inr ⟨_, _, rfl⟩⟩
  · exact ⟨_, cells g3 ht, rfl⟩

set_option maxRecDepth 100000 in
theorem contract (H : Type) (enc : TypeId × Value → H) (W : World) (base : Nat) (args : Array Value) (ds gs : List (DataW H)) (before : List MemPlace)
    (hval0 : ∀ (j : Nat) t v, Tryz.f4.params[j]? = some t → args[j]? = some v → Value.okWide Tryz.prog W .any base t v)
    (hW : DataW.Whole enc Tryz.prog Tryz.f4.params.toList Rows.scriptBackSpec.vars false W args.toList ds gs before)
    (hk : Rows.uptoBulkAll (ds ++ gs) ≤ 1048576)
    (hsz0 : (DataW.weightsEach Tryz.prog (Tryz.f4.params.toList ++ Rows.scriptBackSpec.plain.varTypes Tryz.prog) (ds ++ gs)).all (· ≤ reachBytes) = true)
    (hL : Laid W) : Calls Tryz.prog 4 args W fun e W' => ∃ v, e = .returned v ∧ Rows.scriptBackSpec.post enc Tryz.prog Tryz.f4 false true false false W args v W' := by
  have hsz := hsz0
  have hval := hval0
  have hW' := hW
  obtain ⟨p, q, hA0, hV, rfl, hfz, hnd⟩ := hW
  have hA : DataW.TrodAll enc Tryz.prog W 0 (fun _ => true) true Tryz.f4.params.toList args.toList ds p := hA0
  rw [Tryz.params4] at hA hval hsz
  obtain ⟨v0, vs0, d0, ds0, p0, q0, hargs, rfl, rfl, h0, r0⟩ := trodAll_cons hA
  obtain ⟨v1, vs1, d1, ds1, p1, q1, hargs1, rfl, rfl, h1, r1⟩ := trodAll_cons r0
  obtain ⟨rfl, rfl, rfl⟩ := trodAll_nil r1
  obtain rfl : args = #[v0, v1] := by cases args; simp_all
  obtain ⟨rfl, rfl⟩ := trodVars_none hV
  have lt0 : ∀ x ∈ p0, x.block < W.heap.size := by obtain ⟨m, hm⟩ := h0; exact DataW.trod_lt m _ _ _ hm
  obtain ⟨us0, w0, y0⟩ := open_arg (T := tPln) (by kernel_rfl) (hval 0 24 v0 rfl rfl) h0 (sized_at hsz (j := 0) (t := 24) rfl rfl)
  obtain ⟨p, rfl, hp⟩ := pln_of y0
  obtain ⟨s, rfl, rfl, rfl, _⟩ := Go.ChangeMaps.open_string Tryz.underlying9 (hval 1 9 v1 rfl rfl) h1
  have hl : s.data.toList.length ≤ 1048576 := by
    simp only [List.append_nil, Rows.uptoBulkAll, Rows.uptoBulk] at hk; omega
  clear hA0 hval0 hsz0 hsz
  refine (law_calls (row_back25 p s.data.toList hp hl) (W := W) ?_ hL).mono fun e W' ⟨he, bel⟩ => ?_
  · simp only [RC]
    exact ⟨_, _, rfl, w0, _, _, rfl, str_R _ s, rfl⟩
  subst he
  exact ⟨_, rfl, _, _, _, [], _, [], hW', trodAll_mk1 (shut_bool Tryz.underlying4 _), (trodAll_cons_mk (Below.trod laidOut (by kernel_rfl) (of_decide_eq_true (by kernel_rfl)) h0 bel lt0) (trodAll_cons_mk (Below.trod laidOut (by kernel_rfl) (of_decide_eq_true (by kernel_rfl)) h1 bel (fun x hx => by cases hx)) trodAll_mk0)), rfl, bel.frame _, fun h => by cases h⟩

theorem reads (os : Os) {H : Type} (enc : TypeId × Value → H) : ∃ places, DataW.whole enc Tryz.prog ((laidWorld os).forCall (fun _ _ => 0) ⟨#[], #[.agg #[.int .i64 0, .slice none 0 0], .string ByteArray.empty], []⟩).memory Tryz.f4.params.toList Rows.scriptBackSpec.vars false (#[.agg #[.int .i64 0, .slice none 0 0], .string ByteArray.empty] : Array Value).toList 8 = some ([.agg [.lit (.int .i64 0), .nil], .lit (.string [])], [], places) :=
  ⟨[], by kernel_rfl⟩
set_option maxRecDepth 100000 in
theorem lifted (os : Os) (started : os.Started) (H : Type) (enc : TypeId × Value → H) (F : Stop.Interp) :
    ReturnsInHanded {} Tryz.checked os 4 .any ((Rows.OpenSpec.upto Rows.scriptBackSpec).preRow enc Tryz.prog Tryz.f4 Rows.scriptBackUptoRow.domain false Rows.scriptBackUptoRow.laid) (((Rows.OpenSpec.upto Rows.scriptBackSpec).at F).post enc Tryz.prog Tryz.f4 false true false false) := by
  obtain ⟨places, hx⟩ := reads os enc
  refine returnsInHanded_of_row (C := Tryz.checked) (s := Rows.OpenSpec.upto Rows.scriptBackSpec) own started (by kernel_rfl) Tryz.func4
    (witness_row_atRef (enc := enc) (C := Tryz.checked) false (laidWorld os) #[.agg #[.int .i64 0, .slice none 0 0], .string ByteArray.empty] rfl (by kernel_rfl) (by kernel_rfl) (by kernel_rfl)
      (OpenSpec.preRow_of_cond 8 hx (by kernel_rfl) (fun k hk => by cases hk; kernel_rfl) (by kernel_rfl) (laidWorld_met os _))) ?_
  intro W base args ds gs before hval hW _ hcond hsz hL hs _
  exact contract H enc W base args ds gs before hval hW (of_decide_eq_true (hcond _ rfl)) hsz (laid_of hL hs)
theorem over : Rows.ScriptBackUptoSaid :=
  OpenClaim.holds_of_cond 4 Tryz.f4 rfl rfl rfl rfl rfl rfl rfl ⟨rfl, rfl, rfl, rfl, rfl⟩ rfl rfl rfl rfl rfl (by kernel_rfl) Tryz.func4 (by kernel_rfl)
    (of_decide_eq_true (by kernel_rfl)) (by unfold Func.isWrapper; first | (rw [if_pos (by decide +kernel)]; kernel_rfl) | (rw [if_neg (by decide +kernel)]; exact ⟨rfl, rfl⟩))
    (fun os started H enc _ F => by rw [OpenClaim.pre_eq_preRow]; exact lifted os started H enc F)
theorem proved : Rows.ScriptBackUptoCardSaid :=
  Claim7.holds_tied_plain_at .later [] _ _ _ _ over (fun _ h => by cases h) (by kernel_rfl) (fun _ h => by cases h) scriptBackUpto_row_tie rfl ⟨rfl, rfl⟩ (by kernel_rfl) rfl
    (fun f fn hf hfn => by
      obtain rfl : f = 4 := (Option.some.inj ((show Tryz.prog.funcNamed Rows.scriptBackUptoRow.func = some 4 by kernel_rfl).symm.trans hf)).symm
      obtain rfl : fn = Tryz.f4 := (Option.some.inj (Tryz.func4.symm.trans hfn)).symm
      exact ⟨by kernel_rfl, fun j t ht => by
        rw [Tryz.params4] at ht
        have hm : t ∈ (Tryz.f4.params.toList) := by rw [Tryz.params4]; exact List.mem_of_getElem? (by simpa using ht)
        have hall : Tryz.f4.params.toList.all (fun t => Tryz.prog.wantsStandIn t == false) = true := by kernel_rfl
        exact (by simpa using List.all_eq_true.1 hall t hm : Tryz.prog.wantsStandIn t = false)⟩)
    (by kernel_rfl)
#print axioms proved
end Go.Proofs.YtnglmdheiabdcaaGreatDoor.LScriptBackUpto
namespace Go.Proofs.YtnglmdheiabdcaaGreatDoor
/-- The row, under a short name, for the claim. -/
theorem scriptBackUpto_holds : Rows.ScriptBackUptoCardSaid := YtnglmdheiabdcaaGreatDoor.LScriptBackUpto.proved
end Go.Proofs.YtnglmdheiabdcaaGreatDoor

