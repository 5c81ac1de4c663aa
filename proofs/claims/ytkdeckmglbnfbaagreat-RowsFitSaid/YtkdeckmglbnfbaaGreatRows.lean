/-
  No cell of these rows narrows 'for every input' (looked for: loops, veiled, ifaces, maps, wideKeys, modest, calm, conditions, laid).
  DERIVED. THE GIVEN ROWS OF THIS SEAT. 10 by the template 'for every input the law returns true; each argument reads behind the call as it read before'; 0 by the template 'total and deterministic' (their statements: YtkdeckmglbnfbaaGreatTotals.lean).
  GIVEN WITH THE SEED: the statements are not yours to turn. If you find one false, say at which input.
  Laid BY PROGRAM, IN A SANDBOX (cutbox-rows.mjs): the forced cells as the released guide's own fill.sh prints them over the translation 544f5fb2a2a95311… (all of the seat's roots in one cut). By AI agents, Wed Nov 11 2026. No macro, syntax, notation, axiom, sorry.
-/
import Derived.Test.YtkdeckmglbnfbaaGreatChecked
import GoSem.Claim
import GoSem.ClaimJoined
import GoSem.ClaimMapViews
import Derived.JoinedTies
import Derived.KernelRfl
namespace Go.Proofs.YtkdeckmglbnfbaaGreat
/- THE CELL 'sum', in the pinned program and in every row, IS THE sha256 OF THE DUMP (.gsa) THAT YtkdeckmglbnfbaaGreatProg.lean LOADS. Nothing in Lean hashes anything: it is a label: what it is worth is what the hold of that sum in a sandbox is worth. -/
noncomputable def Tryz.pinned : Pinned := { name := "ytkdeckmglbnfbaagreat", sum := "544f5fb2a2a9531133ce883817419869ff52b1dc0760bfee2fe5af0df02f45ca", checked := Tryz.checked }
namespace Rows
def none {H : Type} : Left H := { results := [], args := [] }

/-- 'penelopelaw20.WorldDoes': WHATEVER THE INPUT: true; the input reads as it did. -/
def worldDoesSpec : ChangeSpec := { name := "worldDoes", fn := fun _ => fun
  | [d1, d2] => { results := [.lit (.bool true)], args := [d1, d2] }
  | _ => none }
def worldDoesRow : OpenClaim := { program := "ytkdeckmglbnfbaagreat", sum := "544f5fb2a2a9531133ce883817419869ff52b1dc0760bfee2fe5af0df02f45ca", func := "penelope/penelopelaw20.WorldDoes", spec := "worldDoes", inPlace := ["internal/bytealg.abigen_runtime_cmpstring", "slices.overlaps[penelope/api.Dag]", "slices.overlaps[penelope/api.Run]"], unfollowed := true, recurses := true, plainKeys := false, apart := false }
def WorldDoesSaid : Prop := worldDoesRow.holds Tryz.pinned (OpenSpec.ofChange worldDoesSpec)

/-- ITS FALSE NEIGHBOUR: 'it returns false'. Refute it at one input. -/
def worldDoesWrong : ChangeSpec := { name := "worldDoes", fn := fun _ => fun
  | [d1, d2] => { results := [.lit (.bool false)], args := [d1, d2] }
  | _ => none }
def WorldDoesWrongFalsely : Prop := worldDoesRow.holds Tryz.pinned (OpenSpec.ofChange worldDoesWrong)

/-- 'penelopelaw20.WorldKeeps': WHATEVER THE INPUT: true; the input reads as it did. -/
def worldKeepsSpec : ChangeSpec := { name := "worldKeeps", fn := fun _ => fun
  | [d1, d2] => { results := [.lit (.bool true)], args := [d1, d2] }
  | _ => none }
def worldKeepsRow : OpenClaim := { program := "ytkdeckmglbnfbaagreat", sum := "544f5fb2a2a9531133ce883817419869ff52b1dc0760bfee2fe5af0df02f45ca", func := "penelope/penelopelaw20.WorldKeeps", spec := "worldKeeps", inPlace := ["internal/bytealg.abigen_runtime_cmpstring", "slices.overlaps[penelope/api.Dag]", "slices.overlaps[penelope/api.Run]"], unfollowed := true, recurses := true, plainKeys := false, apart := false }
def WorldKeepsSaid : Prop := worldKeepsRow.holds Tryz.pinned (OpenSpec.ofChange worldKeepsSpec)

/-- ITS FALSE NEIGHBOUR: 'it returns false'. Refute it at one input. -/
def worldKeepsWrong : ChangeSpec := { name := "worldKeeps", fn := fun _ => fun
  | [d1, d2] => { results := [.lit (.bool false)], args := [d1, d2] }
  | _ => none }
def WorldKeepsWrongFalsely : Prop := worldKeepsRow.holds Tryz.pinned (OpenSpec.ofChange worldKeepsWrong)

/-- 'penelopelaw20.WorldLeases': WHATEVER THE INPUT: true; the input reads as it did. -/
def worldLeasesSpec : ChangeSpec := { name := "worldLeases", fn := fun _ => fun
  | [d] => { results := [.lit (.bool true)], args := [d] }
  | _ => none }
def worldLeasesRow : OpenClaim := { program := "ytkdeckmglbnfbaagreat", sum := "544f5fb2a2a9531133ce883817419869ff52b1dc0760bfee2fe5af0df02f45ca", func := "penelope/penelopelaw20.WorldLeases", spec := "worldLeases", inPlace := ["internal/bytealg.abigen_runtime_cmpstring", "slices.overlaps[penelope/api.Dag]", "slices.overlaps[penelope/api.Run]"], unfollowed := true, recurses := true, plainKeys := false, apart := false }
def WorldLeasesSaid : Prop := worldLeasesRow.holds Tryz.pinned (OpenSpec.ofChange worldLeasesSpec)

/-- ITS FALSE NEIGHBOUR: 'it returns false'. Refute it at one input. -/
def worldLeasesWrong : ChangeSpec := { name := "worldLeases", fn := fun _ => fun
  | [d] => { results := [.lit (.bool false)], args := [d] }
  | _ => none }
def WorldLeasesWrongFalsely : Prop := worldLeasesRow.holds Tryz.pinned (OpenSpec.ofChange worldLeasesWrong)

/-- 'penelopelaw20.WorldTicks': WHATEVER THE INPUT: true; the input reads as it did. -/
def worldTicksSpec : ChangeSpec := { name := "worldTicks", fn := fun _ => fun
  | [d1, d2, d3, d4] => { results := [.lit (.bool true)], args := [d1, d2, d3, d4] }
  | _ => none }
def worldTicksRow : OpenClaim := { program := "ytkdeckmglbnfbaagreat", sum := "544f5fb2a2a9531133ce883817419869ff52b1dc0760bfee2fe5af0df02f45ca", func := "penelope/penelopelaw20.WorldTicks", spec := "worldTicks", inPlace := ["internal/bytealg.abigen_runtime_cmpstring", "slices.overlaps[penelope/api.Dag]", "slices.overlaps[penelope/api.Run]"], unfollowed := true, recurses := true, plainKeys := false, apart := false }
def WorldTicksSaid : Prop := worldTicksRow.holds Tryz.pinned (OpenSpec.ofChange worldTicksSpec)

/-- ITS FALSE NEIGHBOUR: 'it returns false'. Refute it at one input. -/
def worldTicksWrong : ChangeSpec := { name := "worldTicks", fn := fun _ => fun
  | [d1, d2, d3, d4] => { results := [.lit (.bool false)], args := [d1, d2, d3, d4] }
  | _ => none }
def WorldTicksWrongFalsely : Prop := worldTicksRow.holds Tryz.pinned (OpenSpec.ofChange worldTicksWrong)

/-- 'penelopelaw20.WorldFolds': WHATEVER THE INPUT: true; the input reads as it did. -/
def worldFoldsSpec : ChangeSpec := { name := "worldFolds", fn := fun _ => fun
  | [d] => { results := [.lit (.bool true)], args := [d] }
  | _ => none }
def worldFoldsRow : OpenClaim := { program := "ytkdeckmglbnfbaagreat", sum := "544f5fb2a2a9531133ce883817419869ff52b1dc0760bfee2fe5af0df02f45ca", func := "penelope/penelopelaw20.WorldFolds", spec := "worldFolds", inPlace := ["internal/bytealg.abigen_runtime_cmpstring", "slices.overlaps[penelope/api.Dag]", "slices.overlaps[penelope/api.Run]"], unfollowed := true, recurses := true, plainKeys := false, apart := false }
def WorldFoldsSaid : Prop := worldFoldsRow.holds Tryz.pinned (OpenSpec.ofChange worldFoldsSpec)

/-- ITS FALSE NEIGHBOUR: 'it returns false'. Refute it at one input. -/
def worldFoldsWrong : ChangeSpec := { name := "worldFolds", fn := fun _ => fun
  | [d] => { results := [.lit (.bool false)], args := [d] }
  | _ => none }
def WorldFoldsWrongFalsely : Prop := worldFoldsRow.holds Tryz.pinned (OpenSpec.ofChange worldFoldsWrong)

/-- 'penelopelaw20.WorldEnds': WHATEVER THE INPUT: true; the input reads as it did. -/
def worldEndsSpec : ChangeSpec := { name := "worldEnds", fn := fun _ => fun
  | [d1, d2] => { results := [.lit (.bool true)], args := [d1, d2] }
  | _ => none }
def worldEndsRow : OpenClaim := { program := "ytkdeckmglbnfbaagreat", sum := "544f5fb2a2a9531133ce883817419869ff52b1dc0760bfee2fe5af0df02f45ca", func := "penelope/penelopelaw20.WorldEnds", spec := "worldEnds", inPlace := ["internal/bytealg.abigen_runtime_cmpstring", "slices.overlaps[penelope/api.Dag]", "slices.overlaps[penelope/api.Run]"], unfollowed := true, recurses := true, plainKeys := false, apart := false }
def WorldEndsSaid : Prop := worldEndsRow.holds Tryz.pinned (OpenSpec.ofChange worldEndsSpec)

/-- ITS FALSE NEIGHBOUR: 'it returns false'. Refute it at one input. -/
def worldEndsWrong : ChangeSpec := { name := "worldEnds", fn := fun _ => fun
  | [d1, d2] => { results := [.lit (.bool false)], args := [d1, d2] }
  | _ => none }
def WorldEndsWrongFalsely : Prop := worldEndsRow.holds Tryz.pinned (OpenSpec.ofChange worldEndsWrong)

/-- 'penelopelaw21.RowsLays': WHATEVER THE INPUT: true; the input reads as it did. -/
def rowsLaysSpec : ChangeSpec := { name := "rowsLays", fn := fun _ => fun
  | [d] => { results := [.lit (.bool true)], args := [d] }
  | _ => none }
def rowsLaysRow : OpenClaim := { program := "ytkdeckmglbnfbaagreat", sum := "544f5fb2a2a9531133ce883817419869ff52b1dc0760bfee2fe5af0df02f45ca", func := "penelope/penelopelaw21.RowsLays", spec := "rowsLays", inPlace := ["internal/bytealg.abigen_runtime_cmpstring", "internal/abi.NoEscape", "internal/bytealg.MakeNoZero"], unfollowed := true, recurses := true, plainKeys := false, apart := false }
def RowsLaysSaid : Prop := rowsLaysRow.holds Tryz.pinned (OpenSpec.ofChange rowsLaysSpec)

/-- ITS FALSE NEIGHBOUR: 'it returns false'. Refute it at one input. -/
def rowsLaysWrong : ChangeSpec := { name := "rowsLays", fn := fun _ => fun
  | [d] => { results := [.lit (.bool false)], args := [d] }
  | _ => none }
def RowsLaysWrongFalsely : Prop := rowsLaysRow.holds Tryz.pinned (OpenSpec.ofChange rowsLaysWrong)

/-- 'penelopelaw21.RowsDiffs': WHATEVER THE INPUT: true; the input reads as it did. -/
def rowsDiffsSpec : ChangeSpec := { name := "rowsDiffs", fn := fun _ => fun
  | [d1, d2] => { results := [.lit (.bool true)], args := [d1, d2] }
  | _ => none }
def rowsDiffsRow : OpenClaim := { program := "ytkdeckmglbnfbaagreat", sum := "544f5fb2a2a9531133ce883817419869ff52b1dc0760bfee2fe5af0df02f45ca", func := "penelope/penelopelaw21.RowsDiffs", spec := "rowsDiffs", inPlace := ["internal/bytealg.abigen_runtime_cmpstring", "internal/abi.NoEscape", "internal/bytealg.MakeNoZero"], unfollowed := true, recurses := true, plainKeys := false, apart := false }
def RowsDiffsSaid : Prop := rowsDiffsRow.holds Tryz.pinned (OpenSpec.ofChange rowsDiffsSpec)

/-- ITS FALSE NEIGHBOUR: 'it returns false'. Refute it at one input. -/
def rowsDiffsWrong : ChangeSpec := { name := "rowsDiffs", fn := fun _ => fun
  | [d1, d2] => { results := [.lit (.bool false)], args := [d1, d2] }
  | _ => none }
def RowsDiffsWrongFalsely : Prop := rowsDiffsRow.holds Tryz.pinned (OpenSpec.ofChange rowsDiffsWrong)

/-- 'penelopelaw21.RowsLoads': WHATEVER THE INPUT: true; the input reads as it did. -/
def rowsLoadsSpec : ChangeSpec := { name := "rowsLoads", fn := fun _ => fun
  | [d1, d2] => { results := [.lit (.bool true)], args := [d1, d2] }
  | _ => none }
def rowsLoadsRow : OpenClaim := { program := "ytkdeckmglbnfbaagreat", sum := "544f5fb2a2a9531133ce883817419869ff52b1dc0760bfee2fe5af0df02f45ca", func := "penelope/penelopelaw21.RowsLoads", spec := "rowsLoads", inPlace := ["internal/bytealg.abigen_runtime_cmpstring", "internal/abi.NoEscape", "internal/bytealg.MakeNoZero"], unfollowed := true, recurses := true, plainKeys := false, apart := false }
def RowsLoadsSaid : Prop := rowsLoadsRow.holds Tryz.pinned (OpenSpec.ofChange rowsLoadsSpec)

/-- ITS FALSE NEIGHBOUR: 'it returns false'. Refute it at one input. -/
def rowsLoadsWrong : ChangeSpec := { name := "rowsLoads", fn := fun _ => fun
  | [d1, d2] => { results := [.lit (.bool false)], args := [d1, d2] }
  | _ => none }
def RowsLoadsWrongFalsely : Prop := rowsLoadsRow.holds Tryz.pinned (OpenSpec.ofChange rowsLoadsWrong)

/-- 'penelopelaw21.RowsFit': WHATEVER THE INPUT: true; the input reads as it did. -/
def rowsFitSpec : ChangeSpec := { name := "rowsFit", fn := fun _ => fun
  | [d1, d2] => { results := [.lit (.bool true)], args := [d1, d2] }
  | _ => none }
def rowsFitRow : OpenClaim := { program := "ytkdeckmglbnfbaagreat", sum := "544f5fb2a2a9531133ce883817419869ff52b1dc0760bfee2fe5af0df02f45ca", func := "penelope/penelopelaw21.RowsFit", spec := "rowsFit", inPlace := ["internal/bytealg.abigen_runtime_cmpstring", "internal/abi.NoEscape", "internal/bytealg.MakeNoZero", "slices.overlaps[penelope/api.Dag]", "slices.overlaps[penelope/api.Run]"], unfollowed := true, recurses := true, plainKeys := false, apart := false }
def RowsFitSaid : Prop := rowsFitRow.holds Tryz.pinned (OpenSpec.ofChange rowsFitSpec)

/-- ITS FALSE NEIGHBOUR: 'it returns false'. Refute it at one input. -/
def rowsFitWrong : ChangeSpec := { name := "rowsFit", fn := fun _ => fun
  | [d1, d2] => { results := [.lit (.bool false)], args := [d1, d2] }
  | _ => none }
def RowsFitWrongFalsely : Prop := rowsFitRow.holds Tryz.pinned (OpenSpec.ofChange rowsFitWrong)

/- THE SECOND FORM. 'bulk': how many values and letters a reading holds, each counted each time it is reached (what is shared counts as often as it is met; a slice's spare places count too). A statement '..UptoSaid' is the law's where the arguments, and the package variables that the reading takes, are together of bulk at most 1048576: NARROWER than '..Said'. Prove '..Said' where nothing that the law and all that it calls make is longer than what came in: it says more and counts as full. Else prove '..UptoSaid'. A law counts once. -/
mutual
def uptoBulk {H : Type} : DataW H → Nat
  | .lit (.string bytes) => bytes.length + 1
  | .lit _ => 1
  | .nil => 1
  | .ptr d => uptoBulk d + 1
  | .slice elems spare => uptoBulkAll elems + uptoBulkAll spare + 1
  | .agg parts => uptoBulkAll parts + 1
  | .iface _ d => uptoBulk d + 1
  | .map entries => uptoBulkEntries entries + 1
  | .held _ => 1
def uptoBulkAll {H : Type} : List (DataW H) → Nat
  | [] => 0
  | d :: r => uptoBulk d + uptoBulkAll r
def uptoBulkEntries {H : Type} : List (Lit × DataW H) → Nat
  | [] => 0
  | x :: r => uptoBulkEntry x + uptoBulkEntries r
def uptoBulkEntry {H : Type} : Lit × DataW H → Nat
  | (.string bytes, d) => bytes.length + uptoBulk d + 1
  | (_, d) => uptoBulk d + 1
 end
def uptoSmall : (H : Type) → List (DataW H) → Bool := fun _ ds => decide (uptoBulkAll ds ≤ 1048576)
def OpenSpec.upto (s : _root_.Go.ChangeSpec) : _root_.Go.OpenSpec := { _root_.Go.OpenSpec.ofChange s with cond := some uptoSmall }

/-- 'penelopelaw20.WorldDoes', WHERE WHAT IT READS IS OF BULK AT MOST 1048576: true; the input reads as it did. -/
def worldDoesUptoRow : OpenClaim := { program := "ytkdeckmglbnfbaagreat", sum := "544f5fb2a2a9531133ce883817419869ff52b1dc0760bfee2fe5af0df02f45ca", func := "penelope/penelopelaw20.WorldDoes", spec := "worldDoes", inPlace := ["internal/bytealg.abigen_runtime_cmpstring", "slices.overlaps[penelope/api.Dag]", "slices.overlaps[penelope/api.Run]"], unfollowed := true, recurses := true, plainKeys := false, apart := false, narrowed := true }
def WorldDoesUptoSaid : Prop := worldDoesUptoRow.holds Tryz.pinned (OpenSpec.upto worldDoesSpec)

/-- 'penelopelaw20.WorldKeeps', WHERE WHAT IT READS IS OF BULK AT MOST 1048576: true; the input reads as it did. -/
def worldKeepsUptoRow : OpenClaim := { program := "ytkdeckmglbnfbaagreat", sum := "544f5fb2a2a9531133ce883817419869ff52b1dc0760bfee2fe5af0df02f45ca", func := "penelope/penelopelaw20.WorldKeeps", spec := "worldKeeps", inPlace := ["internal/bytealg.abigen_runtime_cmpstring", "slices.overlaps[penelope/api.Dag]", "slices.overlaps[penelope/api.Run]"], unfollowed := true, recurses := true, plainKeys := false, apart := false, narrowed := true }
def WorldKeepsUptoSaid : Prop := worldKeepsUptoRow.holds Tryz.pinned (OpenSpec.upto worldKeepsSpec)

/-- 'penelopelaw20.WorldLeases', WHERE WHAT IT READS IS OF BULK AT MOST 1048576: true; the input reads as it did. -/
def worldLeasesUptoRow : OpenClaim := { program := "ytkdeckmglbnfbaagreat", sum := "544f5fb2a2a9531133ce883817419869ff52b1dc0760bfee2fe5af0df02f45ca", func := "penelope/penelopelaw20.WorldLeases", spec := "worldLeases", inPlace := ["internal/bytealg.abigen_runtime_cmpstring", "slices.overlaps[penelope/api.Dag]", "slices.overlaps[penelope/api.Run]"], unfollowed := true, recurses := true, plainKeys := false, apart := false, narrowed := true }
def WorldLeasesUptoSaid : Prop := worldLeasesUptoRow.holds Tryz.pinned (OpenSpec.upto worldLeasesSpec)

/-- 'penelopelaw20.WorldTicks', WHERE WHAT IT READS IS OF BULK AT MOST 1048576: true; the input reads as it did. -/
def worldTicksUptoRow : OpenClaim := { program := "ytkdeckmglbnfbaagreat", sum := "544f5fb2a2a9531133ce883817419869ff52b1dc0760bfee2fe5af0df02f45ca", func := "penelope/penelopelaw20.WorldTicks", spec := "worldTicks", inPlace := ["internal/bytealg.abigen_runtime_cmpstring", "slices.overlaps[penelope/api.Dag]", "slices.overlaps[penelope/api.Run]"], unfollowed := true, recurses := true, plainKeys := false, apart := false, narrowed := true }
def WorldTicksUptoSaid : Prop := worldTicksUptoRow.holds Tryz.pinned (OpenSpec.upto worldTicksSpec)

/-- 'penelopelaw20.WorldFolds', WHERE WHAT IT READS IS OF BULK AT MOST 1048576: true; the input reads as it did. -/
def worldFoldsUptoRow : OpenClaim := { program := "ytkdeckmglbnfbaagreat", sum := "544f5fb2a2a9531133ce883817419869ff52b1dc0760bfee2fe5af0df02f45ca", func := "penelope/penelopelaw20.WorldFolds", spec := "worldFolds", inPlace := ["internal/bytealg.abigen_runtime_cmpstring", "slices.overlaps[penelope/api.Dag]", "slices.overlaps[penelope/api.Run]"], unfollowed := true, recurses := true, plainKeys := false, apart := false, narrowed := true }
def WorldFoldsUptoSaid : Prop := worldFoldsUptoRow.holds Tryz.pinned (OpenSpec.upto worldFoldsSpec)

/-- 'penelopelaw20.WorldEnds', WHERE WHAT IT READS IS OF BULK AT MOST 1048576: true; the input reads as it did. -/
def worldEndsUptoRow : OpenClaim := { program := "ytkdeckmglbnfbaagreat", sum := "544f5fb2a2a9531133ce883817419869ff52b1dc0760bfee2fe5af0df02f45ca", func := "penelope/penelopelaw20.WorldEnds", spec := "worldEnds", inPlace := ["internal/bytealg.abigen_runtime_cmpstring", "slices.overlaps[penelope/api.Dag]", "slices.overlaps[penelope/api.Run]"], unfollowed := true, recurses := true, plainKeys := false, apart := false, narrowed := true }
def WorldEndsUptoSaid : Prop := worldEndsUptoRow.holds Tryz.pinned (OpenSpec.upto worldEndsSpec)

/-- 'penelopelaw21.RowsLays', WHERE WHAT IT READS IS OF BULK AT MOST 1048576: true; the input reads as it did. -/
def rowsLaysUptoRow : OpenClaim := { program := "ytkdeckmglbnfbaagreat", sum := "544f5fb2a2a9531133ce883817419869ff52b1dc0760bfee2fe5af0df02f45ca", func := "penelope/penelopelaw21.RowsLays", spec := "rowsLays", inPlace := ["internal/bytealg.abigen_runtime_cmpstring", "internal/abi.NoEscape", "internal/bytealg.MakeNoZero"], unfollowed := true, recurses := true, plainKeys := false, apart := false, narrowed := true }
def RowsLaysUptoSaid : Prop := rowsLaysUptoRow.holds Tryz.pinned (OpenSpec.upto rowsLaysSpec)

/-- 'penelopelaw21.RowsDiffs', WHERE WHAT IT READS IS OF BULK AT MOST 1048576: true; the input reads as it did. -/
def rowsDiffsUptoRow : OpenClaim := { program := "ytkdeckmglbnfbaagreat", sum := "544f5fb2a2a9531133ce883817419869ff52b1dc0760bfee2fe5af0df02f45ca", func := "penelope/penelopelaw21.RowsDiffs", spec := "rowsDiffs", inPlace := ["internal/bytealg.abigen_runtime_cmpstring", "internal/abi.NoEscape", "internal/bytealg.MakeNoZero"], unfollowed := true, recurses := true, plainKeys := false, apart := false, narrowed := true }
def RowsDiffsUptoSaid : Prop := rowsDiffsUptoRow.holds Tryz.pinned (OpenSpec.upto rowsDiffsSpec)

/-- 'penelopelaw21.RowsLoads', WHERE WHAT IT READS IS OF BULK AT MOST 1048576: true; the input reads as it did. -/
def rowsLoadsUptoRow : OpenClaim := { program := "ytkdeckmglbnfbaagreat", sum := "544f5fb2a2a9531133ce883817419869ff52b1dc0760bfee2fe5af0df02f45ca", func := "penelope/penelopelaw21.RowsLoads", spec := "rowsLoads", inPlace := ["internal/bytealg.abigen_runtime_cmpstring", "internal/abi.NoEscape", "internal/bytealg.MakeNoZero"], unfollowed := true, recurses := true, plainKeys := false, apart := false, narrowed := true }
def RowsLoadsUptoSaid : Prop := rowsLoadsUptoRow.holds Tryz.pinned (OpenSpec.upto rowsLoadsSpec)

/-- 'penelopelaw21.RowsFit', WHERE WHAT IT READS IS OF BULK AT MOST 1048576: true; the input reads as it did. -/
def rowsFitUptoRow : OpenClaim := { program := "ytkdeckmglbnfbaagreat", sum := "544f5fb2a2a9531133ce883817419869ff52b1dc0760bfee2fe5af0df02f45ca", func := "penelope/penelopelaw21.RowsFit", spec := "rowsFit", inPlace := ["internal/bytealg.abigen_runtime_cmpstring", "internal/abi.NoEscape", "internal/bytealg.MakeNoZero", "slices.overlaps[penelope/api.Dag]", "slices.overlaps[penelope/api.Run]"], unfollowed := true, recurses := true, plainKeys := false, apart := false, narrowed := true }
def RowsFitUptoSaid : Prop := rowsFitUptoRow.holds Tryz.pinned (OpenSpec.upto rowsFitSpec)

end Rows
end Go.Proofs.YtkdeckmglbnfbaaGreat
