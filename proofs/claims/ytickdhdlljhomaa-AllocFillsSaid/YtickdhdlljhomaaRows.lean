/-
  No cell of these rows narrows 'for every input' (looked for: loops, veiled, ifaces, maps, wideKeys, modest, calm, conditions, laid).
  DERIVED. THE GIVEN ROWS OF THIS SEAT. 11 by the template 'for every input the law returns true; each argument reads behind the call as it read before'; 0 by the template 'total and deterministic' (their statements: YtickdhdlljhomaaTotals.lean).
  GIVEN WITH THE SEED: the statements are not yours to turn. If you find one false, say at which input.
  Laid BY PROGRAM, IN A SANDBOX (cutbox-rows.mjs): the forced cells as the released guide's own fill.sh prints them over the translation aa556bf17dafaca7… (all of the seat's roots in one cut). By AI agents, Wed Nov 11 2026. No macro, syntax, notation, axiom, sorry.
-/
import Derived.Test.YtickdhdlljhomaaChecked
import GoSem.Claim
import GoSem.ClaimJoined
import GoSem.ClaimMapViews
import Derived.JoinedTies
import Derived.KernelRfl
namespace Go.Proofs.Ytickdhdlljhomaa
/- THE CELL 'sum', in the pinned program and in every row, IS THE sha256 OF THE DUMP (.gsa) THAT YtickdhdlljhomaaProg.lean LOADS. Nothing in Lean hashes anything: it is a label: what it is worth is what the hold of that sum in a sandbox is worth. -/
noncomputable def Try.pinned : Pinned := { name := "ytickdhdlljhomaa", sum := "aa556bf17dafaca7e21a1a9e3198010ca51079dcf847ce064eb1310de3ee46e4", checked := Try.checked }
namespace Rows
def none {H : Type} : Left H := { results := [], args := [] }

/-- 'penelopelaw05.BitsPacks': WHATEVER THE INPUT: true; the input reads as it did. -/
def bitsPacksSpec : ChangeSpec := { name := "bitsPacks", fn := fun _ => fun
  | [d1, d2, d3] => { results := [.lit (.bool true)], args := [d1, d2, d3] }
  | _ => none }
def bitsPacksRow : OpenClaim := { program := "ytickdhdlljhomaa", sum := "aa556bf17dafaca7e21a1a9e3198010ca51079dcf847ce064eb1310de3ee46e4", func := "penelope/penelopelaw05.BitsPacks", spec := "bitsPacks", apart := false }
def BitsPacksSaid : Prop := bitsPacksRow.holds Try.pinned (OpenSpec.ofChange bitsPacksSpec)

/-- ITS FALSE NEIGHBOUR: 'it returns false'. Refute it at one input. -/
def bitsPacksWrong : ChangeSpec := { name := "bitsPacks", fn := fun _ => fun
  | [d1, d2, d3] => { results := [.lit (.bool false)], args := [d1, d2, d3] }
  | _ => none }
def BitsPacksWrongFalsely : Prop := bitsPacksRow.holds Try.pinned (OpenSpec.ofChange bitsPacksWrong)

/-- 'penelopelaw05.BitsBack': WHATEVER THE INPUT: true; the input reads as it did. -/
def bitsBackSpec : ChangeSpec := { name := "bitsBack", fn := fun _ => fun
  | [d1, d2, d3] => { results := [.lit (.bool true)], args := [d1, d2, d3] }
  | _ => none }
def bitsBackRow : OpenClaim := { program := "ytickdhdlljhomaa", sum := "aa556bf17dafaca7e21a1a9e3198010ca51079dcf847ce064eb1310de3ee46e4", func := "penelope/penelopelaw05.BitsBack", spec := "bitsBack", apart := false }
def BitsBackSaid : Prop := bitsBackRow.holds Try.pinned (OpenSpec.ofChange bitsBackSpec)

/-- ITS FALSE NEIGHBOUR: 'it returns false'. Refute it at one input. -/
def bitsBackWrong : ChangeSpec := { name := "bitsBack", fn := fun _ => fun
  | [d1, d2, d3] => { results := [.lit (.bool false)], args := [d1, d2, d3] }
  | _ => none }
def BitsBackWrongFalsely : Prop := bitsBackRow.holds Try.pinned (OpenSpec.ofChange bitsBackWrong)

/-- 'penelopelaw05.BitsSets': WHATEVER THE INPUT: true; the input reads as it did. -/
def bitsSetsSpec : ChangeSpec := { name := "bitsSets", fn := fun _ => fun
  | [d1, d2, d3] => { results := [.lit (.bool true)], args := [d1, d2, d3] }
  | _ => none }
def bitsSetsRow : OpenClaim := { program := "ytickdhdlljhomaa", sum := "aa556bf17dafaca7e21a1a9e3198010ca51079dcf847ce064eb1310de3ee46e4", func := "penelope/penelopelaw05.BitsSets", spec := "bitsSets", apart := false }
def BitsSetsSaid : Prop := bitsSetsRow.holds Try.pinned (OpenSpec.ofChange bitsSetsSpec)

/-- ITS FALSE NEIGHBOUR: 'it returns false'. Refute it at one input. -/
def bitsSetsWrong : ChangeSpec := { name := "bitsSets", fn := fun _ => fun
  | [d1, d2, d3] => { results := [.lit (.bool false)], args := [d1, d2, d3] }
  | _ => none }
def BitsSetsWrongFalsely : Prop := bitsSetsRow.holds Try.pinned (OpenSpec.ofChange bitsSetsWrong)

/-- 'penelopelaw05.BitsFirst': WHATEVER THE INPUT: true; the input reads as it did. -/
def bitsFirstSpec : ChangeSpec := { name := "bitsFirst", fn := fun _ => fun
  | [d1, d2, d3, d4] => { results := [.lit (.bool true)], args := [d1, d2, d3, d4] }
  | _ => none }
def bitsFirstRow : OpenClaim := { program := "ytickdhdlljhomaa", sum := "aa556bf17dafaca7e21a1a9e3198010ca51079dcf847ce064eb1310de3ee46e4", func := "penelope/penelopelaw05.BitsFirst", spec := "bitsFirst", unfollowed := true, recurses := true, apart := false }
def BitsFirstSaid : Prop := bitsFirstRow.holds Try.pinned (OpenSpec.ofChange bitsFirstSpec)

/-- ITS FALSE NEIGHBOUR: 'it returns false'. Refute it at one input. -/
def bitsFirstWrong : ChangeSpec := { name := "bitsFirst", fn := fun _ => fun
  | [d1, d2, d3, d4] => { results := [.lit (.bool false)], args := [d1, d2, d3, d4] }
  | _ => none }
def BitsFirstWrongFalsely : Prop := bitsFirstRow.holds Try.pinned (OpenSpec.ofChange bitsFirstWrong)

/-- 'penelopelaw05.BitsFinds': WHATEVER THE INPUT: true; the input reads as it did. -/
def bitsFindsSpec : ChangeSpec := { name := "bitsFinds", fn := fun _ => fun
  | [d1, d2] => { results := [.lit (.bool true)], args := [d1, d2] }
  | _ => none }
def bitsFindsRow : OpenClaim := { program := "ytickdhdlljhomaa", sum := "aa556bf17dafaca7e21a1a9e3198010ca51079dcf847ce064eb1310de3ee46e4", func := "penelope/penelopelaw05.BitsFinds", spec := "bitsFinds", unfollowed := true, recurses := true, apart := false }
def BitsFindsSaid : Prop := bitsFindsRow.holds Try.pinned (OpenSpec.ofChange bitsFindsSpec)

/-- ITS FALSE NEIGHBOUR: 'it returns false'. Refute it at one input. -/
def bitsFindsWrong : ChangeSpec := { name := "bitsFinds", fn := fun _ => fun
  | [d1, d2] => { results := [.lit (.bool false)], args := [d1, d2] }
  | _ => none }
def BitsFindsWrongFalsely : Prop := bitsFindsRow.holds Try.pinned (OpenSpec.ofChange bitsFindsWrong)

/-- 'penelopelaw05.BitsCounts': WHATEVER THE INPUT: true; the input reads as it did. -/
def bitsCountsSpec : ChangeSpec := { name := "bitsCounts", fn := fun _ => fun
  | [d1, d2] => { results := [.lit (.bool true)], args := [d1, d2] }
  | _ => none }
def bitsCountsRow : OpenClaim := { program := "ytickdhdlljhomaa", sum := "aa556bf17dafaca7e21a1a9e3198010ca51079dcf847ce064eb1310de3ee46e4", func := "penelope/penelopelaw05.BitsCounts", spec := "bitsCounts", unfollowed := true, recurses := true, apart := false }
def BitsCountsSaid : Prop := bitsCountsRow.holds Try.pinned (OpenSpec.ofChange bitsCountsSpec)

/-- ITS FALSE NEIGHBOUR: 'it returns false'. Refute it at one input. -/
def bitsCountsWrong : ChangeSpec := { name := "bitsCounts", fn := fun _ => fun
  | [d1, d2] => { results := [.lit (.bool false)], args := [d1, d2] }
  | _ => none }
def BitsCountsWrongFalsely : Prop := bitsCountsRow.holds Try.pinned (OpenSpec.ofChange bitsCountsWrong)

/-- 'penelopelaw06.AllocRights': WHATEVER THE INPUT: true; the input reads as it did. -/
def allocRightsSpec : ChangeSpec := { name := "allocRights", fn := fun _ => fun
  | [d1, d2] => { results := [.lit (.bool true)], args := [d1, d2] }
  | _ => none }
def allocRightsRow : OpenClaim := { program := "ytickdhdlljhomaa", sum := "aa556bf17dafaca7e21a1a9e3198010ca51079dcf847ce064eb1310de3ee46e4", func := "penelope/penelopelaw06.AllocRights", spec := "allocRights", unfollowed := true, recurses := true, apart := false }
def AllocRightsSaid : Prop := allocRightsRow.holds Try.pinned (OpenSpec.ofChange allocRightsSpec)

/-- ITS FALSE NEIGHBOUR: 'it returns false'. Refute it at one input. -/
def allocRightsWrong : ChangeSpec := { name := "allocRights", fn := fun _ => fun
  | [d1, d2] => { results := [.lit (.bool false)], args := [d1, d2] }
  | _ => none }
def AllocRightsWrongFalsely : Prop := allocRightsRow.holds Try.pinned (OpenSpec.ofChange allocRightsWrong)

/-- 'penelopelaw06.AllocTakes': WHATEVER THE INPUT: true; the input reads as it did. -/
def allocTakesSpec : ChangeSpec := { name := "allocTakes", fn := fun _ => fun
  | [d] => { results := [.lit (.bool true)], args := [d] }
  | _ => none }
def allocTakesRow : OpenClaim := { program := "ytickdhdlljhomaa", sum := "aa556bf17dafaca7e21a1a9e3198010ca51079dcf847ce064eb1310de3ee46e4", func := "penelope/penelopelaw06.AllocTakes", spec := "allocTakes", unfollowed := true, recurses := true, apart := false }
def AllocTakesSaid : Prop := allocTakesRow.holds Try.pinned (OpenSpec.ofChange allocTakesSpec)

/-- ITS FALSE NEIGHBOUR: 'it returns false'. Refute it at one input. -/
def allocTakesWrong : ChangeSpec := { name := "allocTakes", fn := fun _ => fun
  | [d] => { results := [.lit (.bool false)], args := [d] }
  | _ => none }
def AllocTakesWrongFalsely : Prop := allocTakesRow.holds Try.pinned (OpenSpec.ofChange allocTakesWrong)

/-- 'penelopelaw06.AllocFills': WHATEVER THE INPUT: true; the input reads as it did. -/
def allocFillsSpec : ChangeSpec := { name := "allocFills", fn := fun _ => fun
  | [d1, d2] => { results := [.lit (.bool true)], args := [d1, d2] }
  | _ => none }
def allocFillsRow : OpenClaim := { program := "ytickdhdlljhomaa", sum := "aa556bf17dafaca7e21a1a9e3198010ca51079dcf847ce064eb1310de3ee46e4", func := "penelope/penelopelaw06.AllocFills", spec := "allocFills", unfollowed := true, recurses := true, apart := false }
def AllocFillsSaid : Prop := allocFillsRow.holds Try.pinned (OpenSpec.ofChange allocFillsSpec)

/-- ITS FALSE NEIGHBOUR: 'it returns false'. Refute it at one input. -/
def allocFillsWrong : ChangeSpec := { name := "allocFills", fn := fun _ => fun
  | [d1, d2] => { results := [.lit (.bool false)], args := [d1, d2] }
  | _ => none }
def AllocFillsWrongFalsely : Prop := allocFillsRow.holds Try.pinned (OpenSpec.ofChange allocFillsWrong)

/-- 'penelopelaw06.AllocCalls': WHATEVER THE INPUT: true; the input reads as it did. -/
def allocCallsSpec : ChangeSpec := { name := "allocCalls", fn := fun _ => fun
  | [d1, d2] => { results := [.lit (.bool true)], args := [d1, d2] }
  | _ => none }
def allocCallsRow : OpenClaim := { program := "ytickdhdlljhomaa", sum := "aa556bf17dafaca7e21a1a9e3198010ca51079dcf847ce064eb1310de3ee46e4", func := "penelope/penelopelaw06.AllocCalls", spec := "allocCalls", unfollowed := true, recurses := true, apart := false }
def AllocCallsSaid : Prop := allocCallsRow.holds Try.pinned (OpenSpec.ofChange allocCallsSpec)

/-- ITS FALSE NEIGHBOUR: 'it returns false'. Refute it at one input. -/
def allocCallsWrong : ChangeSpec := { name := "allocCalls", fn := fun _ => fun
  | [d1, d2] => { results := [.lit (.bool false)], args := [d1, d2] }
  | _ => none }
def AllocCallsWrongFalsely : Prop := allocCallsRow.holds Try.pinned (OpenSpec.ofChange allocCallsWrong)

/-- 'penelopelaw06.AllocKeeps': WHATEVER THE INPUT: true; the input reads as it did. -/
def allocKeepsSpec : ChangeSpec := { name := "allocKeeps", fn := fun _ => fun
  | [d1, d2] => { results := [.lit (.bool true)], args := [d1, d2] }
  | _ => none }
def allocKeepsRow : OpenClaim := { program := "ytickdhdlljhomaa", sum := "aa556bf17dafaca7e21a1a9e3198010ca51079dcf847ce064eb1310de3ee46e4", func := "penelope/penelopelaw06.AllocKeeps", spec := "allocKeeps", unfollowed := true, recurses := true, apart := false }
def AllocKeepsSaid : Prop := allocKeepsRow.holds Try.pinned (OpenSpec.ofChange allocKeepsSpec)

/-- ITS FALSE NEIGHBOUR: 'it returns false'. Refute it at one input. -/
def allocKeepsWrong : ChangeSpec := { name := "allocKeeps", fn := fun _ => fun
  | [d1, d2] => { results := [.lit (.bool false)], args := [d1, d2] }
  | _ => none }
def AllocKeepsWrongFalsely : Prop := allocKeepsRow.holds Try.pinned (OpenSpec.ofChange allocKeepsWrong)

/- THE SECOND FORM. 'bulk': how many values and letters a reading holds, each counted each time it is reached (what is shared counts as often as it is met; a slice's spare places count too). A statement '..UptoSaid' is the law's where the arguments, and the package variables that the reading takes, are together of bulk at most 1048576: NARROWER than '..Said'. Prove '..Said' where nothing that the law and all that it calls make is longer than what came in: it says more and counts as full. Else prove '..UptoSaid'. A law counts once. -/
mutual
def uptoBulk {H : Type} : DataW H → Nat
  | .lit (.string bytes) => bytes.length + 1
  | .lit _ => 1
  | .nil => 1
  | .ptr d => uptoBulk d + 1
  | .slice elems spare => uptoBulkAll elems + uptoBulkAll spare + 1
  | .agg parts => uptoBulkAll parts + 1
  | .iface _ d => uptoBulk d + 1
  | .map entries => uptoBulkEntries entries + 1
  | .held _ => 1
def uptoBulkAll {H : Type} : List (DataW H) → Nat
  | [] => 0
  | d :: r => uptoBulk d + uptoBulkAll r
def uptoBulkEntries {H : Type} : List (Lit × DataW H) → Nat
  | [] => 0
  | x :: r => uptoBulkEntry x + uptoBulkEntries r
def uptoBulkEntry {H : Type} : Lit × DataW H → Nat
  | (.string bytes, d) => bytes.length + uptoBulk d + 1
  | (_, d) => uptoBulk d + 1
 end
def uptoSmall : (H : Type) → List (DataW H) → Bool := fun _ ds => decide (uptoBulkAll ds ≤ 1048576)
def OpenSpec.upto (s : _root_.Go.ChangeSpec) : _root_.Go.OpenSpec := { _root_.Go.OpenSpec.ofChange s with cond := some uptoSmall }

/-- 'penelopelaw05.BitsPacks', WHERE WHAT IT READS IS OF BULK AT MOST 1048576: true; the input reads as it did. -/
def bitsPacksUptoRow : OpenClaim := { program := "ytickdhdlljhomaa", sum := "aa556bf17dafaca7e21a1a9e3198010ca51079dcf847ce064eb1310de3ee46e4", func := "penelope/penelopelaw05.BitsPacks", spec := "bitsPacks", apart := false, narrowed := true }
def BitsPacksUptoSaid : Prop := bitsPacksUptoRow.holds Try.pinned (OpenSpec.upto bitsPacksSpec)

/-- 'penelopelaw05.BitsBack', WHERE WHAT IT READS IS OF BULK AT MOST 1048576: true; the input reads as it did. -/
def bitsBackUptoRow : OpenClaim := { program := "ytickdhdlljhomaa", sum := "aa556bf17dafaca7e21a1a9e3198010ca51079dcf847ce064eb1310de3ee46e4", func := "penelope/penelopelaw05.BitsBack", spec := "bitsBack", apart := false, narrowed := true }
def BitsBackUptoSaid : Prop := bitsBackUptoRow.holds Try.pinned (OpenSpec.upto bitsBackSpec)

/-- 'penelopelaw05.BitsSets', WHERE WHAT IT READS IS OF BULK AT MOST 1048576: true; the input reads as it did. -/
def bitsSetsUptoRow : OpenClaim := { program := "ytickdhdlljhomaa", sum := "aa556bf17dafaca7e21a1a9e3198010ca51079dcf847ce064eb1310de3ee46e4", func := "penelope/penelopelaw05.BitsSets", spec := "bitsSets", apart := false, narrowed := true }
def BitsSetsUptoSaid : Prop := bitsSetsUptoRow.holds Try.pinned (OpenSpec.upto bitsSetsSpec)

/-- 'penelopelaw05.BitsFirst', WHERE WHAT IT READS IS OF BULK AT MOST 1048576: true; the input reads as it did. -/
def bitsFirstUptoRow : OpenClaim := { program := "ytickdhdlljhomaa", sum := "aa556bf17dafaca7e21a1a9e3198010ca51079dcf847ce064eb1310de3ee46e4", func := "penelope/penelopelaw05.BitsFirst", spec := "bitsFirst", unfollowed := true, recurses := true, apart := false, narrowed := true }
def BitsFirstUptoSaid : Prop := bitsFirstUptoRow.holds Try.pinned (OpenSpec.upto bitsFirstSpec)

/-- 'penelopelaw05.BitsFinds', WHERE WHAT IT READS IS OF BULK AT MOST 1048576: true; the input reads as it did. -/
def bitsFindsUptoRow : OpenClaim := { program := "ytickdhdlljhomaa", sum := "aa556bf17dafaca7e21a1a9e3198010ca51079dcf847ce064eb1310de3ee46e4", func := "penelope/penelopelaw05.BitsFinds", spec := "bitsFinds", unfollowed := true, recurses := true, apart := false, narrowed := true }
def BitsFindsUptoSaid : Prop := bitsFindsUptoRow.holds Try.pinned (OpenSpec.upto bitsFindsSpec)

/-- 'penelopelaw05.BitsCounts', WHERE WHAT IT READS IS OF BULK AT MOST 1048576: true; the input reads as it did. -/
def bitsCountsUptoRow : OpenClaim := { program := "ytickdhdlljhomaa", sum := "aa556bf17dafaca7e21a1a9e3198010ca51079dcf847ce064eb1310de3ee46e4", func := "penelope/penelopelaw05.BitsCounts", spec := "bitsCounts", unfollowed := true, recurses := true, apart := false, narrowed := true }
def BitsCountsUptoSaid : Prop := bitsCountsUptoRow.holds Try.pinned (OpenSpec.upto bitsCountsSpec)

/-- 'penelopelaw06.AllocRights', WHERE WHAT IT READS IS OF BULK AT MOST 1048576: true; the input reads as it did. -/
def allocRightsUptoRow : OpenClaim := { program := "ytickdhdlljhomaa", sum := "aa556bf17dafaca7e21a1a9e3198010ca51079dcf847ce064eb1310de3ee46e4", func := "penelope/penelopelaw06.AllocRights", spec := "allocRights", unfollowed := true, recurses := true, apart := false, narrowed := true }
def AllocRightsUptoSaid : Prop := allocRightsUptoRow.holds Try.pinned (OpenSpec.upto allocRightsSpec)

/-- 'penelopelaw06.AllocTakes', WHERE WHAT IT READS IS OF BULK AT MOST 1048576: true; the input reads as it did. -/
def allocTakesUptoRow : OpenClaim := { program := "ytickdhdlljhomaa", sum := "aa556bf17dafaca7e21a1a9e3198010ca51079dcf847ce064eb1310de3ee46e4", func := "penelope/penelopelaw06.AllocTakes", spec := "allocTakes", unfollowed := true, recurses := true, apart := false, narrowed := true }
def AllocTakesUptoSaid : Prop := allocTakesUptoRow.holds Try.pinned (OpenSpec.upto allocTakesSpec)

/-- 'penelopelaw06.AllocFills', WHERE WHAT IT READS IS OF BULK AT MOST 1048576: true; the input reads as it did. -/
def allocFillsUptoRow : OpenClaim := { program := "ytickdhdlljhomaa", sum := "aa556bf17dafaca7e21a1a9e3198010ca51079dcf847ce064eb1310de3ee46e4", func := "penelope/penelopelaw06.AllocFills", spec := "allocFills", unfollowed := true, recurses := true, apart := false, narrowed := true }
def AllocFillsUptoSaid : Prop := allocFillsUptoRow.holds Try.pinned (OpenSpec.upto allocFillsSpec)

/-- 'penelopelaw06.AllocCalls', WHERE WHAT IT READS IS OF BULK AT MOST 1048576: true; the input reads as it did. -/
def allocCallsUptoRow : OpenClaim := { program := "ytickdhdlljhomaa", sum := "aa556bf17dafaca7e21a1a9e3198010ca51079dcf847ce064eb1310de3ee46e4", func := "penelope/penelopelaw06.AllocCalls", spec := "allocCalls", unfollowed := true, recurses := true, apart := false, narrowed := true }
def AllocCallsUptoSaid : Prop := allocCallsUptoRow.holds Try.pinned (OpenSpec.upto allocCallsSpec)

/-- 'penelopelaw06.AllocKeeps', WHERE WHAT IT READS IS OF BULK AT MOST 1048576: true; the input reads as it did. -/
def allocKeepsUptoRow : OpenClaim := { program := "ytickdhdlljhomaa", sum := "aa556bf17dafaca7e21a1a9e3198010ca51079dcf847ce064eb1310de3ee46e4", func := "penelope/penelopelaw06.AllocKeeps", spec := "allocKeeps", unfollowed := true, recurses := true, apart := false, narrowed := true }
def AllocKeepsUptoSaid : Prop := allocKeepsUptoRow.holds Try.pinned (OpenSpec.upto allocKeepsSpec)

end Rows
end Go.Proofs.Ytickdhdlljhomaa
