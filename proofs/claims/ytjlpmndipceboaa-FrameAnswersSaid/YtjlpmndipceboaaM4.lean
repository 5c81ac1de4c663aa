/-
  Part 4 of what the proof of the statement FrameAnswers leans on: the evaluator, the functions in compact form, and what they answer.
-/
import Derived.Test.YtjlpmndipceboaaM3
import Derived.Test.YtjlpmndipceboaaProg
import Derived.KernelRfl
section
set_option linter.unusedSimpArgs false
namespace Go.Proofs.Ytjlpmndipceboaa.Ev
open Go
/-- `(*penelope/frame.writer).number` -/
def c22 : C :=
  (.seq
 (.reg false [p (.mov (.v 1)),
 p (.mov (.v 2)),
 p (.call true (.k (.fn 51 [] [])) [.r 1, .r 0]),
 p (.mov (.r 0)),
 p (.ext (.r 0) 0),
 p (.ext (.r 1) 1),
 p (.mov (.r 1)),
 p (.mov (.r 1))] [(0, .v 0), (6, .r 1), (7, .r 0)])
 (.reg true [p (.mov (.v 0)),
 p (.mov (.v 0)),
 p (.mov (.v 0)),
 p (.nck (.r 0)),
 p (.fad 0 (.r 0)),
 p (.load (none) (.r 0)),
 p (.mov (.v 6)),
 p (.bsl 1 [.r 1, .r 0]),
 p (.call true (.k (.fn 24 [] [])) [.r 0]),
 p (.mov (.v 0)),
 p (.nck (.r 0)),
 p (.fad 1 (.r 0)),
 p (.load (none) (.r 0)),
 p (.mov (.r 0)),
 ⟨.mov (.v 7), some (0, false), []⟩,
 ⟨.bin .neq (.r 0) (.k (.int .i64 0)), some (1, false), []⟩,
 p (.pick (.r 2) (.k (.bool true)) (.r 0)),
 p (.nck (.r 16)),
 p (.fad 0 (.r 0)),
 p (.store (none) (.r 0) (.r 10)),
 p (.nck (.r 18)),
 p (.fad 1 (.r 0)),
 p (.store (none) (.r 0) (.r 5))] []))
def r22 : List RV := []
theorem chk22 : Chk Try.prog Try.f22 c22 r22 := ⟨_, rfl, by kernel_rfl, by kernel_rfl⟩
theorem ena22 : EnA Try.prog 22 35 c22 r22 := mkEnA (by kernel_rfl) Try.func22 (by kernel_rfl) chk22
theorem en22 : EnP Try.prog 22 35 c22 r22 := mkEnP (by kernel_rfl) Try.func22 (by kernel_rfl) chk22

/-- `(*penelope/frame.writer).text` -/
def c25 : C :=
  (.seq
 (.reg false [p (.mov (.v 1)),
 p (.call true (.k (.fn 53 [] [])) [.r 0]),
 p (.mov (.r 0)),
 p (.ext (.r 0) 0),
 p (.ext (.r 1) 1),
 p (.mov (.r 1)),
 p (.mov (.r 1))] [(0, .v 0), (1, .v 1), (4, .r 1), (5, .r 0)])
 (.reg true [p (.mov (.v 0)),
 p (.mov (.v 0)),
 p (.mov (.v 0)),
 p (.nck (.r 0)),
 p (.fad 0 (.r 0)),
 p (.load (none) (.r 0)),
 p (.mov (.v 4)),
 p (.bsl 1 [.r 1, .r 0]),
 p (.call true (.k (.fn 24 [] [])) [.r 0]),
 p (.mov (.v 0)),
 p (.nck (.r 0)),
 p (.fad 1 (.r 0)),
 p (.load (none) (.r 0)),
 p (.mov (.r 0)),
 ⟨.mov (.v 5), some (0, false), []⟩,
 ⟨.bin .neq (.r 0) (.k (.int .i64 0)), some (1, false), []⟩,
 p (.pick (.r 2) (.k (.bool true)) (.r 0)),
 p (.mov (.r 0)),
 ⟨.mov (.v 1), some (0, false), []⟩,
 ⟨.len true (.r 0), some (1, false), []⟩,
 ⟨.bin .gtr (.r 0) (.k (.int .i64 255)), some (2, false), []⟩,
 p (.pick (.r 3) (.k (.bool true)) (.r 0)),
 p (.nck (.r 21)),
 p (.fad 0 (.r 0)),
 p (.store (none) (.r 0) (.r 15)),
 p (.nck (.r 23)),
 p (.fad 1 (.r 0)),
 p (.store (none) (.r 0) (.r 5))] []))
def r25 : List RV := []
theorem chk25 : Chk Try.prog Try.f25 c25 r25 := ⟨_, rfl, by kernel_rfl, by kernel_rfl⟩
theorem ena25 : EnA Try.prog 25 37 c25 r25 := mkEnA (by kernel_rfl) Try.func25 (by kernel_rfl) chk25
theorem en25 : EnP Try.prog 25 37 c25 r25 := mkEnP (by kernel_rfl) Try.func25 (by kernel_rfl) chk25

/-- `(*penelope/frame.writer).end` -/
def c26 : C :=
  (.seq
 (.reg false [p (.mov (.k (.str []))),
 p (.mov (.k (.int .i64 0)))] [(0, .v 0)])
 (.seq
 (.seq
 (.reg false [p (.mov (.v 0)),
 p (.nck (.r 0)),
 p (.fad 1 (.r 0)),
 p (.load (none) (.r 0))] [(0, .v 0), (7, .r 0)])
 (.cond (.v 7)
 (.seq
 (.reg false [p (.mov (.k (.str []))),
 p (.mov (.k (.int .i64 1)))] [(2, .r 1), (3, .r 0)])
 .ret)
 .skip))
 (.seq
 (.reg false [p (.mov (.v 0)),
 p (.nck (.r 0)),
 p (.fad 0 (.r 0)),
 p (.load (none) (.r 0)),
 p (.call true (.k (.fn 56 [] [])) [.r 0]),
 p (.mov (.r 0)),
 p (.mov (.k (.int .i64 0)))] [(2, .r 1), (3, .r 0)])
 .ret)))
def r26 : List RV := [.t 2, .t 3]
theorem chk26 : Chk Try.prog Try.f26 c26 r26 := ⟨_, rfl, by kernel_rfl, by kernel_rfl⟩
theorem ena26 : EnA Try.prog 26 13 c26 r26 := mkEnA (by kernel_rfl) Try.func26 (by kernel_rfl) chk26
theorem en26 : EnP Try.prog 26 13 c26 r26 := mkEnP (by kernel_rfl) Try.func26 (by kernel_rfl) chk26

/-- `(*penelope/frame.reader).number` -/
def c35 : C :=
  (.seq
 (.reg false [p (.mov (.k (.int .i64 0)))] [(0, .v 0), (1, .v 1)])
 (.seq
 (.seq
 (.reg false [p (.mov (.v 0)),
 p (.nck (.r 0)),
 p (.fad 2 (.r 0)),
 p (.load (none) (.r 0))] [(0, .v 0), (1, .v 1), (11, .r 0)])
 (.cond (.v 11)
 (.seq
 (.reg false [p (.mov (.k (.int .i64 0)))] [(4, .r 0)])
 .ret)
 .skip))
 (.seq
 (.reg true [p (.mov (.v 0)),
 p (.nck (.r 0)),
 p (.fad 0 (.r 0)),
 p (.load (none) (.r 0)),
 p (.mov (.v 0)),
 p (.nck (.r 0)),
 p (.fad 1 (.r 0)),
 p (.load (none) (.r 0)),
 p (.mov (.v 1)),
 p (.call true (.k (.fn 64 [] [])) [.r 5, .r 1, .r 0]),
 p (.mov (.r 0)),
 p (.ext (.r 0) 0),
 p (.ext (.r 1) 1),
 p (.ext (.r 2) 2),
 p (.mov (.r 2)),
 p (.mov (.r 2)),
 p (.mov (.r 2))] [(0, .v 0), (5, .r 2), (6, .r 1), (7, .r 0)])
 (.seq
 (.reg false [p (.mov (.v 0)),
 p (.mov (.v 0)),
 p (.mov (.v 6)),
 p (.mov (.v 7)),
 p (.bin .neq (.r 0) (.k (.int .i64 0))),
 p (.nck (.r 4)),
 p (.fad 1 (.r 0)),
 p (.store (none) (.r 0) (.r 4)),
 p (.nck (.r 6)),
 p (.fad 2 (.r 0)),
 p (.store (none) (.r 0) (.r 5))] [(5, .v 5)])
 (.seq
 (.reg false [p (.mov (.v 5)),
 p (.mov (.r 0))] [(4, .r 0)])
 .ret)))))
def r35 : List RV := [.t 4]
theorem chk35 : Chk Try.prog Try.f35 c35 r35 := ⟨_, rfl, by kernel_rfl, by kernel_rfl⟩
theorem ena35 : EnA Try.prog 35 36 c35 r35 := mkEnA (by kernel_rfl) Try.func35 (by kernel_rfl) chk35
theorem en35 : EnP Try.prog 35 36 c35 r35 := mkEnP (by kernel_rfl) Try.func35 (by kernel_rfl) chk35

/-- `(*penelope/frame.reader).text` -/
def c36 : C :=
  (.seq
 (.reg false [p (.mov (.k (.str [])))] [(0, .v 0)])
 (.seq
 (.seq
 (.reg false [p (.mov (.v 0)),
 p (.nck (.r 0)),
 p (.fad 2 (.r 0)),
 p (.load (none) (.r 0))] [(0, .v 0), (9, .r 0)])
 (.cond (.v 9)
 (.seq
 (.reg false [p (.mov (.k (.str [])))] [(2, .r 0)])
 .ret)
 .skip))
 (.seq
 (.reg true [p (.mov (.v 0)),
 p (.nck (.r 0)),
 p (.fad 0 (.r 0)),
 p (.load (none) (.r 0)),
 p (.mov (.v 0)),
 p (.nck (.r 0)),
 p (.fad 1 (.r 0)),
 p (.load (none) (.r 0)),
 p (.call true (.k (.fn 65 [] [])) [.r 4, .r 0]),
 p (.mov (.r 0)),
 p (.ext (.r 0) 0),
 p (.ext (.r 1) 1),
 p (.ext (.r 2) 2),
 p (.mov (.r 2)),
 p (.mov (.r 2)),
 p (.mov (.r 2))] [(0, .v 0), (3, .r 2), (4, .r 1), (5, .r 0)])
 (.seq
 (.reg false [p (.mov (.v 0)),
 p (.mov (.v 0)),
 p (.mov (.v 4)),
 p (.mov (.v 5)),
 p (.bin .neq (.r 0) (.k (.int .i64 0))),
 p (.mov (.r 0)),
 ⟨.mov (.v 3), some (0, false), []⟩,
 ⟨.len true (.r 0), some (1, false), []⟩,
 ⟨.bin .gtr (.r 0) (.k (.int .i64 255)), some (2, false), []⟩,
 p (.pick (.r 3) (.k (.bool true)) (.r 0)),
 p (.nck (.r 9)),
 p (.fad 1 (.r 0)),
 p (.store (none) (.r 0) (.r 9)),
 p (.nck (.r 11)),
 p (.fad 2 (.r 0)),
 p (.store (none) (.r 0) (.r 5))] [(3, .v 3)])
 (.seq
 (.reg false [p (.mov (.v 3)),
 p (.mov (.r 0))] [(2, .r 0)])
 .ret)))))
def r36 : List RV := [.t 2]
theorem chk36 : Chk Try.prog Try.f36 c36 r36 := ⟨_, rfl, by kernel_rfl, by kernel_rfl⟩
theorem ena36 : EnA Try.prog 36 38 c36 r36 := mkEnA (by kernel_rfl) Try.func36 (by kernel_rfl) chk36
theorem en36 : EnP Try.prog 36 38 c36 r36 := mkEnP (by kernel_rfl) Try.func36 (by kernel_rfl) chk36

/-- `penelope/frame.read` -/
def c34 : C :=
  (.seq
 (.reg false [p (.mov (.k (.nilp)))] [(0, .v 0)])
 (.seq
 (.reg false [p (.mov (.v 0)),
 p (.call true (.k (.fn 63 [] [])) [.r 0]),
 p (.mov (.r 0)),
 p (.ext (.r 0) 0),
 p (.ext (.r 1) 1),
 p (.mov (.r 1)),
 p (.mov (.r 1))] [(3, .r 1), (4, .r 0)])
 (.seq
 (.reg false [p (.mov (.v 3)),
 p (.mov (.v 4)),
 p (.bin .neq (.r 0) (.k (.int .i64 0))),
 p (.build [.str [], .int .i64 0, .bool false] [(0, 1, .r 2), (2, 1, .r 0)]),
 p (.box 3 (.r 0)),
 p (.mov (.r 0))] [(2, .r 0)])
 .ret)))
def r34 : List RV := [.t 2]
theorem chk34 : Chk Try.prog Try.f34 c34 r34 := ⟨_, rfl, by kernel_rfl, by kernel_rfl⟩
theorem ena34 : EnA Try.prog 34 15 c34 r34 := mkEnA (by kernel_rfl) Try.func34 (by kernel_rfl) chk34
theorem en34 : EnP Try.prog 34 15 c34 r34 := mkEnP (by kernel_rfl) Try.func34 (by kernel_rfl) chk34

/-- `(*penelope/peneloperef16.R).Next` -/
def c46 : C :=
  (.seq
 (.reg false [p (.mov (.k (.int .i64 0)))] [(0, .v 0), (1, .v 1)])
 (.seq
 (.seq
 (.reg false [p (.mov (.v 0)),
 p (.nck (.r 0)),
 p (.fad 2 (.r 0)),
 p (.load (none) (.r 0)),
 p (.bin .neq (.r 0) (.k (.int .i64 0)))] [(0, .v 0), (1, .v 1), (12, .r 0)])
 (.cond (.v 12)
 (.seq
 (.reg false [p (.mov (.k (.int .i64 0)))] [(4, .r 0)])
 .ret)
 .skip))
 (.seq
 (.reg true [p (.mov (.v 0)),
 p (.nck (.r 0)),
 p (.fad 0 (.r 0)),
 p (.load (none) (.r 0)),
 p (.mov (.v 0)),
 p (.nck (.r 0)),
 p (.fad 1 (.r 0)),
 p (.load (none) (.r 0)),
 p (.mov (.v 1)),
 p (.call true (.k (.fn 71 [] [])) [.r 5, .r 1, .r 0]),
 p (.mov (.r 0)),
 p (.ext (.r 0) 0),
 p (.ext (.r 1) 1),
 p (.ext (.r 2) 2),
 p (.mov (.r 2)),
 p (.mov (.r 2)),
 p (.mov (.r 2))] [(0, .v 0), (5, .r 2), (6, .r 1), (7, .r 0)])
 (.seq
 (.reg false [p (.mov (.v 0)),
 p (.mov (.v 6)),
 p (.nck (.r 1)),
 p (.fad 1 (.r 0)),
 p (.store (none) (.r 0) (.r 2))] [(0, .v 0), (5, .v 5), (7, .v 7)])
 (.seq
 (.reg false [p (.mov (.v 0)),
 p (.mov (.v 7)),
 p (.nck (.r 1)),
 p (.fad 2 (.r 0)),
 p (.store (none) (.r 0) (.r 2))] [(5, .v 5)])
 (.seq
 (.reg false [p (.mov (.v 5)),
 p (.mov (.r 0))] [(4, .r 0)])
 .ret))))))
def r46 : List RV := [.t 4]
theorem chk46 : Chk Try.prog Try.f46 c46 r46 := ⟨_, rfl, by kernel_rfl, by kernel_rfl⟩
theorem ena46 : EnA Try.prog 46 36 c46 r46 := mkEnA (by kernel_rfl) Try.func46 (by kernel_rfl) chk46
theorem en46 : EnP Try.prog 46 36 c46 r46 := mkEnP (by kernel_rfl) Try.func46 (by kernel_rfl) chk46

/-- `(*penelope/peneloperef16.R).Text` -/
def c47 : C :=
  (.seq
 (.reg false [p (.mov (.k (.str [])))] [(0, .v 0)])
 (.seq
 (.seq
 (.reg false [p (.mov (.v 0)),
 p (.nck (.r 0)),
 p (.fad 2 (.r 0)),
 p (.load (none) (.r 0)),
 p (.bin .neq (.r 0) (.k (.int .i64 0)))] [(0, .v 0), (10, .r 0)])
 (.cond (.v 10)
 (.seq
 (.reg false [p (.mov (.k (.str [])))] [(2, .r 0)])
 .ret)
 .skip))
 (.seq
 (.reg true [p (.mov (.v 0)),
 p (.nck (.r 0)),
 p (.fad 0 (.r 0)),
 p (.load (none) (.r 0)),
 p (.mov (.v 0)),
 p (.nck (.r 0)),
 p (.fad 1 (.r 0)),
 p (.load (none) (.r 0)),
 p (.call true (.k (.fn 72 [] [])) [.r 4, .r 0]),
 p (.mov (.r 0)),
 p (.ext (.r 0) 0),
 p (.ext (.r 1) 1),
 p (.ext (.r 2) 2),
 p (.mov (.r 2)),
 p (.mov (.r 2)),
 p (.mov (.r 2))] [(0, .v 0), (3, .r 2), (4, .r 1), (5, .r 0)])
 (.seq
 (.reg false [p (.mov (.v 0)),
 p (.mov (.v 4)),
 p (.nck (.r 1)),
 p (.fad 1 (.r 0)),
 p (.store (none) (.r 0) (.r 2))] [(0, .v 0), (3, .v 3), (5, .v 5)])
 (.seq
 (.reg false [p (.mov (.v 0)),
 p (.mov (.v 5)),
 p (.nck (.r 1)),
 p (.fad 2 (.r 0)),
 p (.store (none) (.r 0) (.r 2))] [(3, .v 3)])
 (.seq
 (.reg false [p (.mov (.v 3)),
 p (.mov (.r 0))] [(2, .r 0)])
 .ret))))))
def r47 : List RV := [.t 2]
theorem chk47 : Chk Try.prog Try.f47 c47 r47 := ⟨_, rfl, by kernel_rfl, by kernel_rfl⟩
theorem ena47 : EnA Try.prog 47 33 c47 r47 := mkEnA (by kernel_rfl) Try.func47 (by kernel_rfl) chk47
theorem en47 : EnP Try.prog 47 33 c47 r47 := mkEnP (by kernel_rfl) Try.func47 (by kernel_rfl) chk47

/-- `penelope/task.stands` -/
def c69 : C :=
  (.seq
 (.reg false [p (.box 5 (.v 0)),
 p (.mov (.k (.bool false)))] [(1, .r 1)])
 (.seq
 (.seq
 (.reg false [p (.fad 0 (.v 1)),
 p (.load (none) (.r 0)),
 p (.bin .lss (.r 0) (.k (.int .i64 0))),
 p (.mov (.r 0)),
 ⟨.fad 0 (.v 1), some (0, false), []⟩,
 ⟨.load (none) (.r 0), some (1, false), []⟩,
 ⟨.bin .gtr (.r 0) (.k (.int .i64 5)), some (2, false), []⟩,
 p (.pick (.r 3) (.k (.bool true)) (.r 0)),
 p (.mov (.r 0)),
 ⟨.fad 1 (.v 1), some (0, false), []⟩,
 ⟨.load (none) (.r 0), some (1, false), []⟩,
 ⟨.bin .lss (.r 0) (.k (.int .i64 0)), some (2, false), []⟩,
 p (.pick (.r 3) (.k (.bool true)) (.r 0)),
 p (.mov (.r 0)),
 ⟨.fad 1 (.v 1), some (0, false), []⟩,
 ⟨.load (none) (.r 0), some (1, false), []⟩,
 ⟨.bin .gtr (.r 0) (.k (.int .i64 8)), some (2, false), []⟩,
 p (.pick (.r 3) (.k (.bool true)) (.r 0)),
 p (.mov (.r 0)),
 ⟨.fad 2 (.v 1), some (0, false), []⟩,
 ⟨.load (none) (.r 0), some (1, false), []⟩,
 ⟨.bin .lss (.r 0) (.k (.int .i64 0)), some (2, false), []⟩,
 p (.pick (.r 3) (.k (.bool true)) (.r 0)),
 p (.mov (.r 0)),
 ⟨.fad 2 (.v 1), some (0, false), []⟩,
 ⟨.load (none) (.r 0), some (1, false), []⟩,
 ⟨.bin .gtr (.r 0) (.k (.int .i64 1099511627776)), some (2, false), []⟩,
 p (.pick (.r 3) (.k (.bool true)) (.r 0))] [(1, .v 1), (30, .r 0)])
 (.cond (.v 30)
 (.seq
 (.reg false [p (.mov (.k (.bool false)))] [(2, .r 0)])
 .ret)
 .skip))
 (.seq
 (.seq
 (.reg false [p (.fad 3 (.v 1)),
 p (.load (none) (.r 0)),
 p (.bin .lss (.r 0) (.k (.int .i64 0))),
 p (.mov (.r 0)),
 ⟨.fad 3 (.v 1), some (0, false), []⟩,
 ⟨.load (none) (.r 0), some (1, false), []⟩,
 ⟨.bin .gtr (.r 0) (.k (.int .i64 1099511627776)), some (2, false), []⟩,
 p (.pick (.r 3) (.k (.bool true)) (.r 0)),
 p (.mov (.r 0)),
 ⟨.fad 3 (.v 1), some (0, false), []⟩,
 ⟨.load (none) (.r 0), some (1, false), []⟩,
 ⟨.bin .gtr (.r 0) (.k (.int .i64 0)), some (2, false), []⟩,
 ⟨.fad 0 (.v 1), some (3, false), []⟩,
 ⟨.load (none) (.r 0), some (4, false), []⟩,
 ⟨.bin .eql (.r 0) (.k (.int .i64 2)), some (5, false), []⟩,
 ⟨.eqb true (.r 3) (.r 0), some (6, false), []⟩,
 p (.pick (.r 7) (.k (.bool true)) (.r 0))] [(1, .v 1), (47, .r 0)])
 (.cond (.v 47)
 (.seq
 (.reg false [p (.mov (.k (.bool false)))] [(2, .r 0)])
 .ret)
 .skip))
 (.seq
 (.reg false [p (.fad 4 (.v 1)),
 p (.load (none) (.r 0)),
 p (.len true (.r 0)),
 p (.bin .leq (.r 0) (.k (.int .i64 16))),
 p (.mov (.r 0)),
 ⟨.fad 4 (.v 1), some (0, true), []⟩,
 ⟨.load (none) (.r 0), some (1, true), []⟩,
 ⟨.bin .eql (.r 0) (.k (.str [])), some (2, true), []⟩,
 ⟨.mov (.r 0), some (3, true), []⟩,
 ⟨.fad 0 (.v 1), some (0, false), []⟩,
 ⟨.load (none) (.r 0), some (1, false), []⟩,
 ⟨.bin .eql (.r 0) (.k (.int .i64 3)), some (2, false), []⟩,
 ⟨.pick (.r 3) (.k (.bool true)) (.r 0), some (7, true), []⟩,
 p (.pick (.r 8) (.r 0) (.k (.bool false))),
 p (.mov (.r 0))] [(2, .r 0)])
 .ret))))
def r69 : List RV := [.t 2]
theorem chk69 : Chk Try.prog Try.f69 c69 r69 := ⟨_, rfl, by kernel_rfl, by kernel_rfl⟩
theorem en69 : EnP Try.prog 69 62 c69 r69 := mkEnP (by kernel_rfl) Try.func69 (by kernel_rfl) chk69

/-- `penelope/task.Put` -/
def c42 : C :=
  (.seq
 (.reg false [p (.box 5 (.v 0)),
 p (.mov (.k (.str []))),
 p (.mov (.k (.int .i64 0)))] [(1, .r 2)])
 (.seq
 (.seq
 (.reg false [p (.load (some 5) (.v 1)),
 p (.call true (.k (.fn 69 [] [])) [.r 0]),
 p (.un .not (.r 0))] [(1, .v 1), (16, .r 0)])
 (.cond (.v 16)
 (.seq
 (.reg false [p (.mov (.k (.str []))),
 p (.mov (.k (.int .i64 1)))] [(2, .r 1), (3, .r 0)])
 .ret)
 .skip))
 (.seq
 (.reg false [p (.fad 0 (.v 1)),
 p (.load (none) (.r 0)),
 p (.call true (.k (.fn 51 [] [])) [.r 0, .k (.int .i64 1)]),
 p (.mov (.r 0)),
 p (.ext (.r 0) 0),
 p (.ext (.r 1) 1),
 p (.mov (.r 1)),
 p (.mov (.r 1))] [(1, .v 1), (4, .r 1)])
 (.seq
 (.reg false [p (.fad 1 (.v 1)),
 p (.load (none) (.r 0)),
 p (.call true (.k (.fn 51 [] [])) [.r 0, .k (.int .i64 1)]),
 p (.mov (.r 0)),
 p (.ext (.r 0) 0),
 p (.ext (.r 1) 1),
 p (.mov (.r 1)),
 p (.mov (.r 1))] [(1, .v 1), (4, .v 4), (6, .r 1)])
 (.seq
 (.reg false [p (.fad 2 (.v 1)),
 p (.load (none) (.r 0)),
 p (.call true (.k (.fn 51 [] [])) [.r 0, .k (.int .i64 6)]),
 p (.mov (.r 0)),
 p (.ext (.r 0) 0),
 p (.ext (.r 1) 1),
 p (.mov (.r 1)),
 p (.mov (.r 1))] [(1, .v 1), (4, .v 4), (6, .v 6), (8, .r 1)])
 (.seq
 (.reg false [p (.fad 3 (.v 1)),
 p (.load (none) (.r 0)),
 p (.call true (.k (.fn 51 [] [])) [.r 0, .k (.int .i64 6)]),
 p (.mov (.r 0)),
 p (.ext (.r 0) 0),
 p (.ext (.r 1) 1),
 p (.mov (.r 1)),
 p (.mov (.r 1))] [(1, .v 1), (4, .v 4), (6, .v 6), (8, .v 8), (10, .r 1)])
 (.seq
 (.reg false [p (.fad 4 (.v 1)),
 p (.load (none) (.r 0)),
 p (.call true (.k (.fn 53 [] [])) [.r 0]),
 p (.mov (.r 0)),
 p (.ext (.r 0) 0),
 p (.ext (.r 1) 1),
 p (.mov (.r 1)),
 p (.mov (.r 1))] [(4, .v 4), (6, .v 6), (8, .v 8), (10, .v 10), (12, .r 1), (13, .r 0)])
 (.seq
 (.reg false [p (.mov (.v 4)),
 p (.mov (.v 6)),
 p (.mov (.v 8)),
 p (.mov (.v 10)),
 p (.mov (.v 12)),
 p (.bsl 1 [.r 4, .r 3, .r 2, .r 1, .r 0]),
 p (.call true (.k (.fn 24 [] [])) [.r 0]),
 p (.mov (.v 13)),
 p (.mov (.r 1)),
 p (.mov (.r 1))] [(2, .r 1), (3, .r 0)])
 .ret))))))))
def r42 : List RV := [.t 2, .t 3]
theorem chk42 : Chk Try.prog Try.f42 c42 r42 := ⟨_, rfl, by kernel_rfl, by kernel_rfl⟩
theorem en42 : EnP Try.prog 42 55 c42 r42 := mkEnP (by kernel_rfl) Try.func42 (by kernel_rfl) chk42

/-- `penelope/task.Get` -/
def c45 : C :=
  (.seq
 (.reg false [p (.alloc 5 (.agg [.int .i64 0, .int .i64 0, .int .i64 0, .int .i64 0, .str []])),
 p (.mov (.k (.int .i64 0)))] [(0, .v 0), (2, .r 1)])
 (.seq
 (.reg false [p (.alloc 5 (.agg [.int .i64 0, .int .i64 0, .int .i64 0, .int .i64 0, .str []]))] [(0, .v 0), (2, .v 2), (4, .r 0)])
 (.seq
 (.reg false [p (.mov (.k (.int .i64 0))),
 p (.mov (.k (.int .i64 0)))] [(0, .v 0), (2, .v 2), (4, .v 4), (5, .r 1)])
 (.seq
 (.seq
 (.reg false [p (.fad 0 (.v 4)),
 p (.build [.nilp, .int .i64 0] [(0, 1, .r 0), (1, 1, .k (.int .i64 1))]),
 p (.fad 1 (.v 4)),
 p (.build [.nilp, .int .i64 0] [(0, 1, .r 0), (1, 1, .k (.int .i64 1))]),
 p (.fad 2 (.v 4)),
 p (.build [.nilp, .int .i64 0] [(0, 1, .r 0), (1, 1, .k (.int .i64 6))]),
 p (.fad 3 (.v 4)),
 p (.build [.nilp, .int .i64 0] [(0, 1, .r 0), (1, 1, .k (.int .i64 6))]),
 p (.bsl 2 [.r 6, .r 4, .r 2, .r 0]),
 p (.len false (.r 0)),
 p (.mov (.k (.int .i64 0)))] [(0, .v 0), (2, .v 2), (4, .v 4), (5, .v 5), (17, .r 2), (18, .r 1), (19, .r 0)])
 (.block 0
 (.loop
 (.seq
 (.reg false [p (.bin .lss (.v 19) (.v 18))] [(0, .v 0), (2, .v 2), (4, .v 4), (5, .v 5), (17, .v 17), (18, .v 18), (19, .v 19), (20, .r 0)])
 (.seq
 (.cond (.v 20)
 .skip
 (.exit 0))
 (.seq
 (.block 1
 (.seq
 (.reg false [p (.iad 2 (.v 17) (.v 19)),
 p (.load (some 2) (.r 0)),
 p (.alloc 2 (.agg [.nilp, .int .i64 0])),
 p (.store (some 2) (.r 0) (.r 1))] [(0, .v 0), (2, .v 2), (4, .v 4), (5, .v 5), (8, .r 1), (17, .v 17), (18, .v 18), (19, .v 19)])
 (.seq
 (.reg true [p (.fad 0 (.v 8)),
 p (.load (none) (.r 0)),
 p (.mov (.v 0)),
 p (.mov (.v 5)),
 p (.fad 1 (.v 8)),
 p (.load (none) (.r 0)),
 p (.call true (.k (.fn 64 [] [])) [.r 3, .r 2, .r 0]),
 p (.mov (.r 0)),
 p (.ext (.r 0) 0),
 p (.ext (.r 1) 1),
 p (.ext (.r 2) 2),
 p (.nck (.r 9)),
 p (.store (none) (.r 0) (.r 3)),
 p (.mov (.r 3)),
 p (.mov (.r 3))] [(0, .v 0), (2, .v 2), (4, .v 4), (5, .r 1), (6, .r 0), (17, .v 17), (18, .v 18), (19, .v 19)])
 (.seq
 (.reg false [p (.mov (.v 6)),
 p (.bin .neq (.r 0) (.k (.int .i64 0)))] [(0, .v 0), (2, .v 2), (4, .v 4), (5, .v 5), (6, .v 6), (17, .v 17), (18, .v 18), (19, .v 19), (36, .r 0)])
 (.cond (.v 36)
 (.seq
 (.reg false [p (.build [.int .i64 0, .int .i64 0, .int .i64 0, .int .i64 0, .str []] []),
 p (.mov (.v 6)),
 p (.store (some 5) (.v 2) (.r 1)),
 p (.mov (.r 1))] [(2, .v 2), (3, .r 0)])
 .ret)
 .skip)))))
 (.reg false [p (.bin .add (.v 19) (.k (.int .i64 1))),
 p (.mov (.r 0))] [(0, .v 0), (2, .v 2), (4, .v 4), (5, .v 5), (17, .v 17), (18, .v 18), (19, .r 0)])))))))
 (.frz
 (.seq
 (.seq
 (.reg false [p (.mov (.v 0)),
 p (.mov (.v 5)),
 p (.call true (.k (.fn 65 [] [])) [.r 1, .r 0]),
 p (.mov (.r 0)),
 p (.ext (.r 0) 0),
 p (.ext (.r 1) 1),
 p (.ext (.r 2) 2),
 p (.fad 4 (.v 4)),
 p (.store (none) (.r 0) (.r 3)),
 p (.mov (.r 3)),
 p (.mov (.r 3))] [(0, .v 0), (2, .v 2), (4, .v 4), (5, .r 1), (6, .r 0)])
 (.seq
 (.reg false [p (.mov (.v 6)),
 p (.bin .neq (.r 0) (.k (.int .i64 0)))] [(0, .v 0), (2, .v 2), (4, .v 4), (5, .v 5), (6, .v 6), (49, .r 0)])
 (.cond (.v 49)
 (.seq
 (.reg false [p (.build [.int .i64 0, .int .i64 0, .int .i64 0, .int .i64 0, .str []] []),
 p (.mov (.v 6)),
 p (.store (some 5) (.v 2) (.r 1)),
 p (.mov (.r 1))] [(2, .v 2), (3, .r 0)])
 .ret)
 .skip)))
 (.seq
 (.seq
 (.reg false [p (.mov (.v 5)),
 p (.mov (.v 0)),
 p (.len true (.r 0)),
 p (.bin .neq (.r 2) (.r 0)),
 p (.mov (.r 0)),
 ⟨.load (some 5) (.v 4), some (0, false), []⟩,
 ⟨.call true (.k (.fn 69 [] [])) [.r 0], some (1, false), []⟩,
 ⟨.un .not (.r 0), some (2, false), []⟩,
 p (.pick (.r 3) (.k (.bool true)) (.r 0))] [(2, .v 2), (4, .v 4), (60, .r 0)])
 (.cond (.v 60)
 (.seq
 (.reg false [p (.build [.int .i64 0, .int .i64 0, .int .i64 0, .int .i64 0, .str []] []),
 p (.store (some 5) (.v 2) (.r 0)),
 p (.mov (.k (.int .i64 4)))] [(2, .v 2), (3, .r 0)])
 .ret)
 .skip))
 (.seq
 (.reg false [p (.load (some 5) (.v 4)),
 p (.store (some 5) (.v 2) (.r 0)),
 p (.mov (.k (.int .i64 0)))] [(2, .v 2), (3, .r 0)])
 .ret))))))))
def r45 : List RV := [.c 2 (some 5), .t 3]
theorem chk45 : Chk Try.prog Try.f45 c45 r45 := ⟨_, rfl, by kernel_rfl, by kernel_rfl⟩
theorem en45 : EnP Try.prog 45 63 c45 r45 := mkEnP (by kernel_rfl) Try.func45 (by kernel_rfl) chk45

/-- `penelope/peneloperef18.Stands` -/
def c43 : C :=
  (.seq
 (.reg false [p (.box 5 (.v 0)),
 p (.mov (.k (.bool false)))] [(1, .r 1)])
 (.seq
 (.seq
 (.reg false [p (.fad 0 (.v 1)),
 p (.load (none) (.r 0)),
 p (.bin .lss (.r 0) (.k (.int .i64 0))),
 p (.mov (.r 0)),
 ⟨.fad 0 (.v 1), some (0, false), []⟩,
 ⟨.load (none) (.r 0), some (1, false), []⟩,
 ⟨.bin .gtr (.r 0) (.k (.int .i64 5)), some (2, false), []⟩,
 p (.pick (.r 3) (.k (.bool true)) (.r 0)),
 p (.mov (.r 0)),
 ⟨.fad 1 (.v 1), some (0, false), []⟩,
 ⟨.load (none) (.r 0), some (1, false), []⟩,
 ⟨.bin .lss (.r 0) (.k (.int .i64 0)), some (2, false), []⟩,
 p (.pick (.r 3) (.k (.bool true)) (.r 0)),
 p (.mov (.r 0)),
 ⟨.fad 1 (.v 1), some (0, false), []⟩,
 ⟨.load (none) (.r 0), some (1, false), []⟩,
 ⟨.bin .gtr (.r 0) (.k (.int .i64 8)), some (2, false), []⟩,
 p (.pick (.r 3) (.k (.bool true)) (.r 0)),
 p (.mov (.r 0)),
 ⟨.fad 2 (.v 1), some (0, false), []⟩,
 ⟨.load (none) (.r 0), some (1, false), []⟩,
 ⟨.bin .lss (.r 0) (.k (.int .i64 0)), some (2, false), []⟩,
 p (.pick (.r 3) (.k (.bool true)) (.r 0)),
 p (.mov (.r 0)),
 ⟨.fad 2 (.v 1), some (0, false), []⟩,
 ⟨.load (none) (.r 0), some (1, false), []⟩,
 ⟨.bin .gtr (.r 0) (.k (.int .i64 1099511627776)), some (2, false), []⟩,
 p (.pick (.r 3) (.k (.bool true)) (.r 0)),
 p (.mov (.r 0)),
 ⟨.fad 3 (.v 1), some (0, false), []⟩,
 ⟨.load (none) (.r 0), some (1, false), []⟩,
 ⟨.bin .gtr (.r 0) (.k (.int .i64 1099511627776)), some (2, false), []⟩,
 p (.pick (.r 3) (.k (.bool true)) (.r 0)),
 p (.mov (.r 0)),
 ⟨.fad 4 (.v 1), some (0, false), []⟩,
 ⟨.load (none) (.r 0), some (1, false), []⟩,
 ⟨.len true (.r 0), some (2, false), []⟩,
 ⟨.bin .gtr (.r 0) (.k (.int .i64 16)), some (3, false), []⟩,
 p (.pick (.r 4) (.k (.bool true)) (.r 0))] [(1, .v 1), (41, .r 0)])
 (.cond (.v 41)
 (.seq
 (.reg false [p (.mov (.k (.bool false)))] [(2, .r 0)])
 .ret)
 .skip))
 (.seq
 (.seq
 (.reg false [p (.fad 0 (.v 1)),
 p (.load (none) (.r 0)),
 p (.bin .eql (.r 0) (.k (.int .i64 2))),
 p (.mov (.r 0)),
 ⟨.fad 3 (.v 1), some (0, true), []⟩,
 ⟨.load (none) (.r 0), some (1, true), []⟩,
 ⟨.bin .lss (.r 0) (.k (.int .i64 1)), some (2, true), []⟩,
 p (.pick (.r 3) (.r 0) (.k (.bool false))),
 p (.mov (.r 0)),
 ⟨.fad 0 (.v 1), some (0, false), []⟩,
 ⟨.load (none) (.r 0), some (1, false), []⟩,
 ⟨.bin .neq (.r 0) (.k (.int .i64 2)), some (2, false), []⟩,
 ⟨.mov (.r 0), some (3, false), []⟩,
 ⟨.fad 3 (.v 1), some (0, true), []⟩,
 ⟨.load (none) (.r 0), some (1, true), []⟩,
 ⟨.bin .neq (.r 0) (.k (.int .i64 0)), some (2, true), []⟩,
 ⟨.pick (.r 3) (.r 0) (.k (.bool false)), some (7, false), []⟩,
 p (.pick (.r 8) (.k (.bool true)) (.r 0))] [(1, .v 1), (59, .r 0)])
 (.cond (.v 59)
 (.seq
 (.reg false [p (.mov (.k (.bool false)))] [(2, .r 0)])
 .ret)
 .skip))
 (.seq
 (.reg false [p (.fad 0 (.v 1)),
 p (.load (none) (.r 0)),
 p (.bin .eql (.r 0) (.k (.int .i64 3))),
 p (.mov (.r 0)),
 ⟨.fad 4 (.v 1), some (0, false), []⟩,
 ⟨.load (none) (.r 0), some (1, false), []⟩,
 ⟨.bin .eql (.r 0) (.k (.str [])), some (2, false), []⟩,
 p (.pick (.r 3) (.k (.bool true)) (.r 0)),
 p (.mov (.r 0))] [(2, .r 0)])
 .ret))))
def r43 : List RV := [.t 2]
theorem chk43 : Chk Try.prog Try.f43 c43 r43 := ⟨_, rfl, by kernel_rfl, by kernel_rfl⟩
theorem en43 : EnP Try.prog 43 68 c43 r43 := mkEnP (by kernel_rfl) Try.func43 (by kernel_rfl) chk43

/-- `penelope/peneloperef18.number` -/
def c70 : C :=
  (.seq
 (.reg false [p (.mov (.k (.str [])))] [(0, .v 0), (1, .v 1)])
 (.seq
 (.reg false [p (.mov (.v 0)),
 p (.mov (.v 1)),
 p (.call true (.k (.fn 61 [] [])) [.r 1, .r 0]),
 p (.mov (.r 0)),
 p (.ext (.r 0) 0),
 p (.ext (.r 1) 1),
 p (.mov (.r 1)),
 p (.mov (.r 1))] [(5, .r 1)])
 (.seq
 (.reg false [p (.mov (.v 5)),
 p (.mov (.r 0))] [(4, .r 0)])
 .ret)))
def r70 : List RV := [.t 4]
theorem chk70 : Chk Try.prog Try.f70 c70 r70 := ⟨_, rfl, by kernel_rfl, by kernel_rfl⟩
theorem en70 : EnP Try.prog 70 14 c70 r70 := mkEnP (by kernel_rfl) Try.func70 (by kernel_rfl) chk70

/-- `penelope/peneloperef18.Put` -/
def c44 : C :=
  (.seq
 (.reg false [p (.box 5 (.v 0)),
 p (.mov (.k (.str [])))] [(1, .r 1)])
 (.seq
 (.reg false [p (.fad 4 (.v 1)),
 p (.load (none) (.r 0)),
 p (.call true (.k (.fn 59 [] [])) [.r 0]),
 p (.mov (.r 0)),
 p (.ext (.r 0) 0),
 p (.ext (.r 1) 1),
 p (.mov (.r 1)),
 p (.mov (.r 1))] [(1, .v 1), (3, .r 1)])
 (.seq
 (.reg true [p (.fad 0 (.v 1)),
 p (.load (none) (.r 0)),
 p (.call true (.k (.fn 70 [] [])) [.r 0, .k (.int .i64 1)]),
 p (.fad 1 (.v 1)),
 p (.load (none) (.r 0)),
 p (.call true (.k (.fn 70 [] [])) [.r 0, .k (.int .i64 1)]),
 p (.bin .add (.r 3) (.r 0)),
 p (.fad 2 (.v 1)),
 p (.load (none) (.r 0)),
 p (.call true (.k (.fn 70 [] [])) [.r 0, .k (.int .i64 6)]),
 p (.bin .add (.r 3) (.r 0)),
 p (.fad 3 (.v 1)),
 p (.load (none) (.r 0)),
 p (.call true (.k (.fn 70 [] [])) [.r 0, .k (.int .i64 6)]),
 p (.bin .add (.r 3) (.r 0)),
 p (.mov (.v 3)),
 p (.bin .add (.r 1) (.r 0)),
 p (.mov (.r 0))] [(2, .r 0)])
 .ret)))
def r44 : List RV := [.t 2]
theorem chk44 : Chk Try.prog Try.f44 c44 r44 := ⟨_, rfl, by kernel_rfl, by kernel_rfl⟩
theorem en44 : EnP Try.prog 44 28 c44 r44 := mkEnP (by kernel_rfl) Try.func44 (by kernel_rfl) chk44

/-- `penelope/peneloperef18.Get` -/
def c48 : C :=
  (.seq
 (.reg false [p (.alloc 5 (.agg [.int .i64 0, .int .i64 0, .int .i64 0, .int .i64 0, .str []])),
 p (.mov (.k (.int .i64 0)))] [(0, .v 0), (2, .r 1)])
 (.seq
 (.reg false [p (.mov (.v 0)),
 p (.build [.str [], .int .i64 0, .int .i64 0] [(0, 1, .r 0)]),
 p (.box 3 (.r 0)),
 p (.mov (.r 0))] [(0, .v 0), (2, .v 2), (4, .r 0)])
 (.seq
 (.reg false [p (.build [.int .i64 0, .int .i64 0, .int .i64 0, .int .i64 0, .str []] []),
 p (.alloc 5 (.agg [.int .i64 0, .int .i64 0, .int .i64 0, .int .i64 0, .str []])),
 p (.store (some 5) (.r 0) (.r 1))] [(0, .v 0), (2, .v 2), (4, .v 4), (5, .r 1)])
 (.seq
 (.reg false [p (.mov (.v 4)),
 p (.call false (.k (.fn 46 [] [])) [.r 0, .k (.int .i64 1)]),
 p (.fad 0 (.v 5)),
 p (.store (none) (.r 0) (.r 1))] [(0, .v 0), (2, .v 2), (4, .v 4), (5, .v 5)])
 (.seq
 (.reg false [p (.mov (.v 4)),
 p (.call false (.k (.fn 46 [] [])) [.r 0, .k (.int .i64 1)]),
 p (.fad 1 (.v 5)),
 p (.store (none) (.r 0) (.r 1))] [(0, .v 0), (2, .v 2), (4, .v 4), (5, .v 5)])
 (.seq
 (.reg false [p (.mov (.v 4)),
 p (.call false (.k (.fn 46 [] [])) [.r 0, .k (.int .i64 6)]),
 p (.fad 2 (.v 5)),
 p (.store (none) (.r 0) (.r 1))] [(0, .v 0), (2, .v 2), (4, .v 4), (5, .v 5)])
 (.seq
 (.reg false [p (.mov (.v 4)),
 p (.call false (.k (.fn 46 [] [])) [.r 0, .k (.int .i64 6)]),
 p (.fad 3 (.v 5)),
 p (.store (none) (.r 0) (.r 1))] [(0, .v 0), (2, .v 2), (4, .v 4), (5, .v 5)])
 (.seq
 (.reg false [p (.mov (.v 4)),
 p (.call false (.k (.fn 47 [] [])) [.r 0]),
 p (.fad 4 (.v 5)),
 p (.store (none) (.r 0) (.r 1))] [(0, .v 0), (2, .v 2), (4, .v 4), (5, .v 5)])
 (.seq
 (.seq
 (.reg false [p (.mov (.v 4)),
 p (.nck (.r 0)),
 p (.fad 2 (.r 0)),
 p (.load (none) (.r 0)),
 p (.bin .neq (.r 0) (.k (.int .i64 0)))] [(0, .v 0), (2, .v 2), (4, .v 4), (5, .v 5), (29, .r 0)])
 (.cond (.v 29)
 (.seq
 (.reg true [p (.build [.int .i64 0, .int .i64 0, .int .i64 0, .int .i64 0, .str []] []),
 p (.mov (.v 4)),
 p (.nck (.r 0)),
 p (.fad 2 (.r 0)),
 p (.load (none) (.r 0)),
 ⟨.store (some 5) (.v 2) (.r 4), none, [0]⟩,
 p (.mov (.r 1))] [(2, .v 2), (3, .r 0)])
 .ret)
 .skip))
 (.seq
 (.seq
 (.reg false [p (.mov (.v 4)),
 p (.nck (.r 0)),
 p (.fad 1 (.r 0)),
 p (.load (none) (.r 0)),
 p (.mov (.v 0)),
 p (.len true (.r 0)),
 p (.bin .neq (.r 2) (.r 0)),
 p (.mov (.r 0)),
 ⟨.load (some 5) (.v 5), some (0, false), []⟩,
 ⟨.call true (.k (.fn 43 [] [])) [.r 0], some (1, false), []⟩,
 ⟨.un .not (.r 0), some (2, false), []⟩,
 p (.pick (.r 3) (.k (.bool true)) (.r 0))] [(2, .v 2), (5, .v 5), (46, .r 0)])
 (.cond (.v 46)
 (.seq
 (.reg false [p (.build [.int .i64 0, .int .i64 0, .int .i64 0, .int .i64 0, .str []] []),
 p (.store (some 5) (.v 2) (.r 0)),
 p (.mov (.k (.int .i64 4)))] [(2, .v 2), (3, .r 0)])
 .ret)
 .skip))
 (.seq
 (.reg false [p (.load (some 5) (.v 5)),
 p (.store (some 5) (.v 2) (.r 0)),
 p (.mov (.k (.int .i64 0)))] [(2, .v 2), (3, .r 0)])
 .ret)))))))))))
def r48 : List RV := [.c 2 (some 5), .t 3]
theorem chk48 : Chk Try.prog Try.f48 c48 r48 := ⟨_, rfl, by kernel_rfl, by kernel_rfl⟩
theorem en48 : EnP Try.prog 48 49 c48 r48 := mkEnP (by kernel_rfl) Try.func48 (by kernel_rfl) chk48

/-- `penelope/peneloperef23.six` -/
def c27 : C :=
  (.seq
 (.reg false [p (.mov (.k (.bool false)))] [(0, .v 0)])
 (.seq
 (.reg false [p (.mov (.v 0)),
 p (.bin .geq (.r 0) (.k (.int .i64 0))),
 p (.mov (.r 0)),
 ⟨.mov (.v 0), some (0, true), []⟩,
 ⟨.bin .lss (.r 0) (.k (.int .i64 281474976710656)), some (1, true), []⟩,
 p (.pick (.r 2) (.r 0) (.k (.bool false))),
 p (.mov (.r 0))] [(2, .r 0)])
 .ret))
def r27 : List RV := [.t 2]
theorem chk27 : Chk Try.prog Try.f27 c27 r27 := ⟨_, rfl, by kernel_rfl, by kernel_rfl⟩
theorem en27 : EnP Try.prog 27 9 c27 r27 := mkEnP (by kernel_rfl) Try.func27 (by kernel_rfl) chk27

/-- `penelope/peneloperef23.text` -/
def c31 : C :=
  (.seq
 (.reg false [p (.mov (.k (.str [])))] [(0, .v 0)])
 (.seq
 (.reg false [p (.mov (.v 0)),
 p (.call true (.k (.fn 59 [] [])) [.r 0]),
 p (.mov (.r 0)),
 p (.ext (.r 0) 0),
 p (.ext (.r 1) 1),
 p (.mov (.r 1)),
 p (.mov (.r 1))] [(3, .r 1)])
 (.seq
 (.reg false [p (.mov (.v 3)),
 p (.mov (.r 0))] [(2, .r 0)])
 .ret)))
def r31 : List RV := [.t 2]
theorem chk31 : Chk Try.prog Try.f31 c31 r31 := ⟨_, rfl, by kernel_rfl, by kernel_rfl⟩
theorem en31 : EnP Try.prog 31 11 c31 r31 := mkEnP (by kernel_rfl) Try.func31 (by kernel_rfl) chk31

/-- `penelope/peneloperef23.number` -/
def c32 : C :=
  (.seq
 (.reg false [p (.mov (.k (.str [])))] [(0, .v 0), (1, .v 1)])
 (.seq
 (.reg false [p (.mov (.v 0)),
 p (.mov (.v 1)),
 p (.call true (.k (.fn 61 [] [])) [.r 1, .r 0]),
 p (.mov (.r 0)),
 p (.ext (.r 0) 0),
 p (.ext (.r 1) 1),
 p (.mov (.r 1)),
 p (.mov (.r 1))] [(5, .r 1)])
 (.seq
 (.reg false [p (.mov (.v 5)),
 p (.mov (.r 0))] [(4, .r 0)])
 .ret)))
def r32 : List RV := [.t 4]
theorem chk32 : Chk Try.prog Try.f32 c32 r32 := ⟨_, rfl, by kernel_rfl, by kernel_rfl⟩
theorem en32 : EnP Try.prog 32 14 c32 r32 := mkEnP (by kernel_rfl) Try.func32 (by kernel_rfl) chk32

/-- `penelope/peneloperef23.Answer` -/
def c17 : C :=
  (.seq
 (.reg false [p (.box 6 (.v 0)),
 p (.mov (.k (.str []))),
 p (.mov (.k (.int .i64 0)))] [(1, .r 2)])
 (.seq
 (.seq
 (.reg false [p (.fad 0 (.v 1)),
 p (.load (none) (.r 0)),
 p (.bin .lss (.r 0) (.k (.int .i64 0))),
 p (.mov (.r 0)),
 ⟨.fad 0 (.v 1), some (0, false), []⟩,
 ⟨.load (none) (.r 0), some (1, false), []⟩,
 ⟨.bin .gtr (.r 0) (.k (.int .i64 65535)), some (2, false), []⟩,
 p (.pick (.r 3) (.k (.bool true)) (.r 0)),
 p (.mov (.r 0)),
 ⟨.fad 1 (.v 1), some (0, false), []⟩,
 ⟨.load (none) (.r 0), some (1, false), []⟩,
 ⟨.len true (.r 0), some (2, false), []⟩,
 ⟨.bin .gtr (.r 0) (.k (.int .i64 255)), some (3, false), []⟩,
 p (.pick (.r 4) (.k (.bool true)) (.r 0)),
 p (.mov (.r 0)),
 ⟨.fad 2 (.v 1), some (0, false), []⟩,
 ⟨.load (none) (.r 0), some (1, false), []⟩,
 ⟨.bin .lss (.r 0) (.k (.int .i64 0)), some (2, false), []⟩,
 p (.pick (.r 3) (.k (.bool true)) (.r 0)),
 p (.mov (.r 0)),
 ⟨.fad 2 (.v 1), some (0, false), []⟩,
 ⟨.load (none) (.r 0), some (1, false), []⟩,
 ⟨.bin .gtr (.r 0) (.k (.int .i64 255)), some (2, false), []⟩,
 p (.pick (.r 3) (.k (.bool true)) (.r 0)),
 p (.mov (.r 0)),
 ⟨.fad 3 (.v 1), some (0, false), []⟩,
 ⟨.load (none) (.r 0), some (1, false), []⟩,
 ⟨.call true (.k (.fn 27 [] [])) [.r 0], some (2, false), []⟩,
 ⟨.un .not (.r 0), some (3, false), []⟩,
 p (.pick (.r 4) (.k (.bool true)) (.r 0)),
 p (.mov (.r 0)),
 ⟨.fad 4 (.v 1), some (0, false), []⟩,
 ⟨.load (none) (.r 0), some (1, false), []⟩,
 ⟨.bin .lss (.r 0) (.k (.int .i64 0)), some (2, false), []⟩,
 p (.pick (.r 3) (.k (.bool true)) (.r 0)),
 p (.mov (.r 0)),
 ⟨.fad 4 (.v 1), some (0, false), []⟩,
 ⟨.load (none) (.r 0), some (1, false), []⟩,
 ⟨.bin .gtr (.r 0) (.k (.int .i64 255)), some (2, false), []⟩,
 p (.pick (.r 3) (.k (.bool true)) (.r 0)),
 p (.mov (.r 0)),
 ⟨.fad 5 (.v 1), some (0, false), []⟩,
 ⟨.load (none) (.r 0), some (1, false), []⟩,
 ⟨.len false (.r 0), some (2, false), []⟩,
 ⟨.bin .gtr (.r 0) (.k (.int .i64 255)), some (3, false), []⟩,
 p (.pick (.r 4) (.k (.bool true)) (.r 0))] [(1, .v 1), (52, .r 0)])
 (.cond (.v 52)
 (.seq
 (.reg false [p (.mov (.k (.str []))),
 p (.mov (.k (.int .i64 1)))] [(2, .r 1), (3, .r 0)])
 .ret)
 .skip))
 (.seq
 (.reg true [p (.fad 0 (.v 1)),
 p (.load (none) (.r 0)),
 p (.call true (.k (.fn 32 [] [])) [.r 0, .k (.int .i64 2)]),
 p (.fad 1 (.v 1)),
 p (.load (none) (.r 0)),
 p (.call true (.k (.fn 31 [] [])) [.r 0]),
 p (.bin .add (.r 3) (.r 0)),
 p (.fad 2 (.v 1)),
 p (.load (none) (.r 0)),
 p (.call true (.k (.fn 32 [] [])) [.r 0, .k (.int .i64 1)]),
 p (.bin .add (.r 3) (.r 0)),
 p (.fad 3 (.v 1)),
 p (.load (none) (.r 0)),
 p (.call true (.k (.fn 32 [] [])) [.r 0, .k (.int .i64 6)]),
 p (.bin .add (.r 3) (.r 0)),
 p (.fad 4 (.v 1)),
 p (.load (none) (.r 0)),
 p (.call true (.k (.fn 32 [] [])) [.r 0, .k (.int .i64 1)]),
 p (.bin .add (.r 3) (.r 0)),
 p (.fad 5 (.v 1)),
 p (.load (none) (.r 0)),
 p (.len false (.r 0)),
 p (.call true (.k (.fn 32 [] [])) [.r 0, .k (.int .i64 1)]),
 p (.bin .add (.r 4) (.r 0)),
 p (.mov (.r 0))] [(1, .v 1), (4, .r 0)])
 (.seq
 (.seq
 (.reg false [p (.fad 5 (.v 1)),
 p (.load (none) (.r 0)),
 p (.len false (.r 0)),
 p (.mov (.k (.int .i64 0)))] [(4, .v 4), (78, .r 2), (79, .r 1), (80, .r 0)])
 (.block 0
 (.loop
 (.seq
 (.reg false [p (.bin .lss (.v 80) (.v 79))] [(4, .v 4), (78, .v 78), (79, .v 79), (80, .v 80), (81, .r 0)])
 (.seq
 (.cond (.v 81)
 .skip
 (.exit 0))
 (.seq
 (.block 1
 (.seq
 (.reg false [p (.iad 5 (.v 78) (.v 80)),
 p (.load (some 5) (.r 0)),
 p (.alloc 5 (.agg [.int .i64 0, .int .i64 0, .int .i64 0, .int .i64 0, .str []])),
 p (.store (some 5) (.r 0) (.r 1))] [(4, .v 4), (6, .r 1), (78, .v 78), (79, .v 79), (80, .v 80)])
 (.seq
 (.seq
 (.reg false [p (.load (some 5) (.v 6)),
 p (.call true (.k (.fn 43 [] [])) [.r 0]),
 p (.un .not (.r 0))] [(4, .v 4), (6, .v 6), (78, .v 78), (79, .v 79), (80, .v 80), (86, .r 0)])
 (.cond (.v 86)
 (.seq
 (.reg false [p (.mov (.k (.str []))),
 p (.mov (.k (.int .i64 1)))] [(2, .r 1), (3, .r 0)])
 .ret)
 .skip))
 (.reg false [p (.mov (.v 4)),
 p (.load (some 5) (.v 6)),
 p (.call true (.k (.fn 44 [] [])) [.r 0]),
 p (.call true (.k (.fn 31 [] [])) [.r 0]),
 p (.bin .add (.r 3) (.r 0)),
 p (.mov (.r 0))] [(4, .r 0), (78, .v 78), (79, .v 79), (80, .v 80)]))))
 (.reg false [p (.bin .add (.v 80) (.k (.int .i64 1))),
 p (.mov (.r 0))] [(4, .v 4), (78, .v 78), (79, .v 79), (80, .r 0)])))))))
 (.frz
 (.seq
 (.reg false [p (.mov (.v 4)),
 p (.call true (.k (.fn 33 [] [])) [.r 0]),
 p (.mov (.r 0)),
 p (.mov (.k (.int .i64 0)))] [(2, .r 1), (3, .r 0)])
 .ret))))))
def r17 : List RV := [.t 2, .t 3]
theorem chk17 : Chk Try.prog Try.f17 c17 r17 := ⟨_, rfl, by kernel_rfl, by kernel_rfl⟩
theorem en17 : EnP Try.prog 17 95 c17 r17 := mkEnP (by kernel_rfl) Try.func17 (by kernel_rfl) chk17

/-- `penelope/frame.Answer` -/
def c16 : C :=
  (.seq
 (.reg false [p (.box 6 (.v 0)),
 p (.mov (.k (.str []))),
 p (.mov (.k (.int .i64 0)))] [(1, .r 2)])
 (.seq
 (.reg false [p (.build [.str [], .bool false] []),
 p (.box 2 (.r 0)),
 p (.mov (.r 0))] [(1, .v 1), (4, .r 0)])
 (.seq
 (.reg false [p (.mov (.v 4)),
 p (.fad 0 (.v 1)),
 p (.load (none) (.r 0)),
 p (.call false (.k (.fn 22 [] [])) [.r 2, .r 0, .k (.int .i64 2)])] [(1, .v 1), (4, .v 4)])
 (.seq
 (.reg false [p (.mov (.v 4)),
 p (.fad 1 (.v 1)),
 p (.load (none) (.r 0)),
 p (.call false (.k (.fn 25 [] [])) [.r 2, .r 0])] [(1, .v 1), (4, .v 4)])
 (.seq
 (.reg false [p (.mov (.v 4)),
 p (.fad 2 (.v 1)),
 p (.load (none) (.r 0)),
 p (.call false (.k (.fn 22 [] [])) [.r 2, .r 0, .k (.int .i64 1)])] [(1, .v 1), (4, .v 4)])
 (.seq
 (.reg false [p (.mov (.v 4)),
 p (.fad 3 (.v 1)),
 p (.load (none) (.r 0)),
 p (.call false (.k (.fn 22 [] [])) [.r 2, .r 0, .k (.int .i64 6)])] [(1, .v 1), (4, .v 4)])
 (.seq
 (.reg false [p (.mov (.v 4)),
 p (.fad 4 (.v 1)),
 p (.load (none) (.r 0)),
 p (.call false (.k (.fn 22 [] [])) [.r 2, .r 0, .k (.int .i64 1)])] [(1, .v 1), (4, .v 4)])
 (.seq
 (.reg false [p (.mov (.v 4)),
 p (.fad 5 (.v 1)),
 p (.load (none) (.r 0)),
 p (.len false (.r 0)),
 p (.call false (.k (.fn 22 [] [])) [.r 3, .r 0, .k (.int .i64 1)])] [(1, .v 1), (4, .v 4)])
 (.seq
 (.seq
 (.reg false [p (.mov (.v 4)),
 p (.nck (.r 0)),
 p (.fad 1 (.r 0)),
 p (.load (none) (.r 0))] [(1, .v 1), (4, .v 4), (39, .r 0)])
 (.cond (.v 39)
 (.seq
 (.reg false [p (.mov (.k (.str []))),
 p (.mov (.k (.int .i64 1)))] [(2, .r 1), (3, .r 0)])
 .ret)
 .skip))
 (.seq
 (.seq
 (.reg false [p (.fad 5 (.v 1)),
 p (.load (none) (.r 0)),
 p (.len false (.r 0)),
 p (.mov (.k (.int .i64 0)))] [(4, .v 4), (41, .r 2), (42, .r 1), (43, .r 0)])
 (.block 0
 (.loop
 (.seq
 (.reg false [p (.bin .lss (.v 43) (.v 42))] [(4, .v 4), (41, .v 41), (42, .v 42), (43, .v 43), (44, .r 0)])
 (.seq
 (.cond (.v 44)
 .skip
 (.exit 0))
 (.seq
 (.block 1
 (.seq
 (.reg false [p (.iad 5 (.v 41) (.v 43)),
 p (.load (some 5) (.r 0)),
 p (.alloc 5 (.agg [.int .i64 0, .int .i64 0, .int .i64 0, .int .i64 0, .str []])),
 p (.store (some 5) (.r 0) (.r 1))] [(4, .v 4), (6, .r 1), (41, .v 41), (42, .v 42), (43, .v 43)])
 (.seq
 (.reg false [p (.load (some 5) (.v 6)),
 p (.call true (.k (.fn 42 [] [])) [.r 0]),
 p (.mov (.r 0)),
 p (.ext (.r 0) 0),
 p (.ext (.r 1) 1),
 p (.mov (.r 1)),
 p (.mov (.r 1))] [(4, .v 4), (7, .r 1), (8, .r 0), (41, .v 41), (42, .v 42), (43, .v 43)])
 (.seq
 (.reg false [p (.mov (.v 4)),
 p (.mov (.v 7)),
 p (.call false (.k (.fn 25 [] [])) [.r 1, .r 0])] [(4, .v 4), (8, .v 8), (41, .v 41), (42, .v 42), (43, .v 43)])
 (.reg false [p (.mov (.v 4)),
 p (.mov (.v 4)),
 p (.nck (.r 0)),
 p (.fad 1 (.r 0)),
 p (.load (none) (.r 0)),
 p (.mov (.r 0)),
 ⟨.mov (.v 8), some (0, false), []⟩,
 ⟨.bin .neq (.r 0) (.k (.int .i64 0)), some (1, false), []⟩,
 p (.pick (.r 2) (.k (.bool true)) (.r 0)),
 p (.nck (.r 8)),
 p (.fad 1 (.r 0)),
 p (.store (none) (.r 0) (.r 2))] [(4, .v 4), (41, .v 41), (42, .v 42), (43, .v 43)])))))
 (.reg false [p (.bin .add (.v 43) (.k (.int .i64 1))),
 p (.mov (.r 0))] [(4, .v 4), (41, .v 41), (42, .v 42), (43, .r 0)])))))))
 (.frz
 (.seq
 (.reg false [p (.mov (.v 4)),
 p (.call false (.k (.fn 26 [] [])) [.r 0]),
 p (.ext (.r 0) 0),
 p (.ext (.r 1) 1),
 p (.mov (.r 1)),
 p (.mov (.r 1))] [(2, .r 1), (3, .r 0)])
 .ret))))))))))))
def r16 : List RV := [.t 2, .t 3]
theorem chk16 : Chk Try.prog Try.f16 c16 r16 := ⟨_, rfl, by kernel_rfl, by kernel_rfl⟩
theorem en16 : EnP Try.prog 16 71 c16 r16 := mkEnP (by kernel_rfl) Try.func16 (by kernel_rfl) chk16

/-- `penelope/frame.Told` -/
def c18 : C :=
  (.seq
 (.reg false [p (.alloc 6 (.agg [.int .i64 0, .str [], .int .i64 0, .int .i64 0, .int .i64 0, .fsl .nil 5 []])),
 p (.mov (.k (.int .i64 0)))] [(0, .v 0), (2, .r 1)])
 (.seq
 (.reg false [p (.mov (.v 0)),
 p (.call false (.k (.fn 34 [] [])) [.r 0]),
 p (.mov (.r 0))] [(2, .v 2), (4, .r 0)])
 (.seq
 (.reg false [p (.alloc 6 (.agg [.int .i64 0, .str [], .int .i64 0, .int .i64 0, .int .i64 0, .fsl .nil 5 []]))] [(2, .v 2), (4, .v 4), (5, .r 0)])
 (.seq
 (.reg false [p (.mov (.v 4)),
 p (.call false (.k (.fn 35 [] [])) [.r 0, .k (.int .i64 2)]),
 p (.fad 0 (.v 5)),
 p (.store (none) (.r 0) (.r 1))] [(2, .v 2), (4, .v 4), (5, .v 5)])
 (.seq
 (.reg false [p (.mov (.v 4)),
 p (.call false (.k (.fn 36 [] [])) [.r 0]),
 p (.fad 1 (.v 5)),
 p (.store (none) (.r 0) (.r 1))] [(2, .v 2), (4, .v 4), (5, .v 5)])
 (.seq
 (.reg false [p (.mov (.v 4)),
 p (.call false (.k (.fn 35 [] [])) [.r 0, .k (.int .i64 1)]),
 p (.fad 2 (.v 5)),
 p (.store (none) (.r 0) (.r 1))] [(2, .v 2), (4, .v 4), (5, .v 5)])
 (.seq
 (.reg false [p (.mov (.v 4)),
 p (.call false (.k (.fn 35 [] [])) [.r 0, .k (.int .i64 6)]),
 p (.fad 3 (.v 5)),
 p (.store (none) (.r 0) (.r 1))] [(2, .v 2), (4, .v 4), (5, .v 5)])
 (.seq
 (.reg false [p (.mov (.v 4)),
 p (.call false (.k (.fn 35 [] [])) [.r 0, .k (.int .i64 1)]),
 p (.fad 4 (.v 5)),
 p (.store (none) (.r 0) (.r 1))] [(2, .v 2), (4, .v 4), (5, .v 5)])
 (.seq
 (.seq
 (.reg false [p (.mov (.v 4)),
 p (.call false (.k (.fn 35 [] [])) [.r 0, .k (.int .i64 1)]),
 p (.mov (.r 0))] [(2, .v 2), (4, .v 4), (5, .v 5), (6, .r 0)])
 (.block 0
 (.loop
 (.seq
 (.seq
 (.reg false [p (.mov (.v 6)),
 p (.bin .gtr (.r 0) (.k (.int .i64 0))),
 p (.mov (.r 0)),
 ⟨.mov (.v 4), some (0, true), []⟩,
 ⟨.nck (.r 0), some (1, true), []⟩,
 ⟨.fad 2 (.r 0), some (2, true), []⟩,
 ⟨.load (none) (.r 0), some (3, true), []⟩,
 ⟨.un .not (.r 0), some (4, true), []⟩,
 p (.pick (.r 5) (.r 0) (.k (.bool false)))] [(2, .v 2), (4, .v 4), (5, .v 5), (6, .v 6), (36, .r 0)])
 (.cond (.v 36)
 .skip
 (.exit 0)))
 (.seq
 (.block 1
 (.seq
 (.reg false [p (.mov (.v 4)),
 p (.call false (.k (.fn 36 [] [])) [.r 0]),
 p (.call true (.k (.fn 45 [] [])) [.r 0]),
 p (.mov (.r 0)),
 p (.ext (.r 0) 0),
 p (.ext (.r 1) 1),
 p (.alloc 5 (.agg [.int .i64 0, .int .i64 0, .int .i64 0, .int .i64 0, .str []])),
 p (.store (some 5) (.r 0) (.r 2)),
 p (.mov (.r 2))] [(2, .v 2), (4, .v 4), (5, .v 5), (6, .v 6), (7, .r 2), (8, .r 0)])
 (.seq
 (.reg false [p (.mov (.v 4)),
 p (.mov (.v 4)),
 p (.nck (.r 0)),
 p (.fad 2 (.r 0)),
 p (.load (none) (.r 0)),
 p (.mov (.r 0)),
 ⟨.mov (.v 8), some (0, false), []⟩,
 ⟨.bin .neq (.r 0) (.k (.int .i64 0)), some (1, false), []⟩,
 p (.pick (.r 2) (.k (.bool true)) (.r 0)),
 p (.nck (.r 8)),
 p (.fad 2 (.r 0)),
 p (.store (none) (.r 0) (.r 2))] [(2, .v 2), (4, .v 4), (5, .v 5), (6, .v 6), (7, .v 7)])
 (.reg false [p (.fad 5 (.v 5)),
 p (.load (none) (.r 0)),
 p (.load (some 5) (.v 7)),
 p (.bsl 5 [.r 0]),
 p (.app 5 48 (.r 2) (.r 0)),
 p (.fad 5 (.v 5)),
 p (.store (none) (.r 0) (.r 1))] [(2, .v 2), (4, .v 4), (5, .v 5), (6, .v 6)]))))
 (.reg false [p (.mov (.v 6)),
 p (.bin .sub (.r 0) (.k (.int .i64 1))),
 p (.mov (.r 0))] [(2, .v 2), (4, .v 4), (5, .v 5), (6, .r 0)]))))))
 (.frz
 (.seq
 (.seq
 (.reg true [p (.mov (.v 4)),
 p (.nck (.r 0)),
 p (.fad 2 (.r 0)),
 p (.load (none) (.r 0)),
 p (.mov (.r 0)),
 ⟨.mov (.v 4), some (0, false), []⟩,
 ⟨.nck (.r 0), some (1, false), []⟩,
 ⟨.fad 1 (.r 0), some (2, false), []⟩,
 ⟨.load (none) (.r 0), some (3, false), []⟩,
 ⟨.mov (.v 4), some (4, false), []⟩,
 ⟨.nck (.r 0), some (5, false), []⟩,
 ⟨.fad 0 (.r 0), some (6, false), []⟩,
 ⟨.load (none) (.r 0), some (7, false), []⟩,
 ⟨.len true (.r 0), some (8, false), []⟩,
 ⟨.bin .neq (.r 5) (.r 0), some (9, false), []⟩,
 p (.pick (.r 10) (.k (.bool true)) (.r 0))] [(2, .v 2), (5, .v 5), (77, .r 0)])
 (.cond (.v 77)
 (.seq
 (.reg false [p (.build [.int .i64 0, .str [], .int .i64 0, .int .i64 0, .int .i64 0, .fsl .nil 5 []] []),
 p (.store (some 6) (.v 2) (.r 0)),
 p (.mov (.k (.int .i64 230)))] [(2, .v 2), (3, .r 0)])
 .ret)
 .skip))
 (.seq
 (.reg false [p (.load (some 6) (.v 5)),
 p (.store (some 6) (.v 2) (.r 0)),
 p (.mov (.k (.int .i64 0)))] [(2, .v 2), (3, .r 0)])
 .ret))))))))))))
def r18 : List RV := [.c 2 (some 6), .t 3]
theorem chk18 : Chk Try.prog Try.f18 c18 r18 := ⟨_, rfl, by kernel_rfl, by kernel_rfl⟩
theorem en18 : EnP Try.prog 18 80 c18 r18 := mkEnP (by kernel_rfl) Try.func18 (by kernel_rfl) chk18

/-- `penelope/peneloperef23.Told` -/
def c19 : C :=
  (.seq
 (.reg false [p (.alloc 6 (.agg [.int .i64 0, .str [], .int .i64 0, .int .i64 0, .int .i64 0, .fsl .nil 5 []])),
 p (.mov (.k (.int .i64 0)))] [(0, .v 0), (2, .r 1)])
 (.seq
 (.reg false [p (.mov (.v 0)),
 p (.call true (.k (.fn 39 [] [])) [.r 0]),
 p (.mov (.r 0)),
 p (.ext (.r 0) 0),
 p (.ext (.r 1) 1),
 p (.mov (.r 1)),
 p (.mov (.r 1))] [(0, .v 0), (2, .v 2), (4, .r 1), (5, .r 0)])
 (.seq
 (.seq
 (.reg false [p (.mov (.v 5)),
 p (.bin .neq (.r 0) (.k (.int .i64 0)))] [(0, .v 0), (2, .v 2), (4, .v 4), (20, .r 0)])
 (.cond (.v 20)
 (.seq
 (.reg false [p (.build [.int .i64 0, .str [], .int .i64 0, .int .i64 0, .int .i64 0, .fsl .nil 5 []] []),
 p (.store (some 6) (.v 2) (.r 0)),
 p (.mov (.k (.int .i64 230)))] [(2, .v 2), (3, .r 0)])
 .ret)
 .skip))
 (.seq
 (.reg false [p (.mov (.v 4)),
 p (.build [.str [], .int .i64 0, .int .i64 0] [(0, 1, .r 0)]),
 p (.box 3 (.r 0)),
 p (.mov (.r 0))] [(0, .v 0), (2, .v 2), (6, .r 0)])
 (.seq
 (.reg false [p (.mov (.v 6)),
 p (.call false (.k (.fn 46 [] [])) [.r 0, .k (.int .i64 2)]),
 p (.build [.int .i64 0, .str [], .int .i64 0, .int .i64 0, .int .i64 0, .fsl .nil 5 []] [(0, 1, .r 0)]),
 p (.alloc 6 (.agg [.int .i64 0, .str [], .int .i64 0, .int .i64 0, .int .i64 0, .fsl .nil 5 []])),
 p (.store (some 6) (.r 0) (.r 1))] [(0, .v 0), (2, .v 2), (6, .v 6), (7, .r 1)])
 (.seq
 (.reg false [p (.mov (.v 6)),
 p (.call false (.k (.fn 47 [] [])) [.r 0]),
 p (.fad 1 (.v 7)),
 p (.store (none) (.r 0) (.r 1))] [(0, .v 0), (2, .v 2), (6, .v 6), (7, .v 7)])
 (.seq
 (.reg false [p (.mov (.v 6)),
 p (.call false (.k (.fn 46 [] [])) [.r 0, .k (.int .i64 1)]),
 p (.fad 2 (.v 7)),
 p (.store (none) (.r 0) (.r 1))] [(0, .v 0), (2, .v 2), (6, .v 6), (7, .v 7)])
 (.seq
 (.reg false [p (.mov (.v 6)),
 p (.call false (.k (.fn 46 [] [])) [.r 0, .k (.int .i64 6)]),
 p (.fad 3 (.v 7)),
 p (.store (none) (.r 0) (.r 1))] [(0, .v 0), (2, .v 2), (6, .v 6), (7, .v 7)])
 (.seq
 (.reg false [p (.mov (.v 6)),
 p (.call false (.k (.fn 46 [] [])) [.r 0, .k (.int .i64 1)]),
 p (.fad 4 (.v 7)),
 p (.store (none) (.r 0) (.r 1))] [(0, .v 0), (2, .v 2), (6, .v 6), (7, .v 7)])
 (.seq
 (.reg false [p (.mov (.v 6)),
 p (.call false (.k (.fn 46 [] [])) [.r 0, .k (.int .i64 1)]),
 p (.mov (.r 0))] [(0, .v 0), (2, .v 2), (6, .v 6), (7, .v 7), (8, .r 0)])
 (.seq
 (.seq
 (.reg false [p (.mov (.k (.int .i64 0)))] [(0, .v 0), (2, .v 2), (6, .v 6), (7, .v 7), (8, .v 8), (9, .r 0)])
 (.block 0
 (.loop
 (.seq
 (.seq
 (.reg false [p (.mov (.v 9)),
 p (.mov (.v 8)),
 p (.bin .lss (.r 1) (.r 0))] [(0, .v 0), (2, .v 2), (6, .v 6), (7, .v 7), (8, .v 8), (9, .v 9), (44, .r 0)])
 (.cond (.v 44)
 .skip
 (.exit 0)))
 (.seq
 (.block 1
 (.seq
 (.reg false [p (.mov (.v 6)),
 p (.call false (.k (.fn 47 [] [])) [.r 0]),
 p (.call true (.k (.fn 48 [] [])) [.r 0]),
 p (.mov (.r 0)),
 p (.ext (.r 0) 0),
 p (.ext (.r 1) 1),
 p (.alloc 5 (.agg [.int .i64 0, .int .i64 0, .int .i64 0, .int .i64 0, .str []])),
 p (.store (some 5) (.r 0) (.r 2)),
 p (.mov (.r 2))] [(0, .v 0), (2, .v 2), (6, .v 6), (7, .v 7), (8, .v 8), (9, .v 9), (10, .r 2), (11, .r 0)])
 (.seq
 (.seq
 (.reg false [p (.mov (.v 11)),
 p (.bin .neq (.r 0) (.k (.int .i64 0)))] [(0, .v 0), (2, .v 2), (6, .v 6), (7, .v 7), (8, .v 8), (9, .v 9), (10, .v 10), (54, .r 0)])
 (.cond (.v 54)
 (.seq
 (.reg false [p (.build [.int .i64 0, .str [], .int .i64 0, .int .i64 0, .int .i64 0, .fsl .nil 5 []] []),
 p (.store (some 6) (.v 2) (.r 0)),
 p (.mov (.k (.int .i64 230)))] [(2, .v 2), (3, .r 0)])
 .ret)
 .skip))
 (.reg false [p (.fad 5 (.v 7)),
 p (.load (none) (.r 0)),
 p (.load (some 5) (.v 10)),
 p (.bsl 5 [.r 0]),
 p (.app 5 48 (.r 2) (.r 0)),
 p (.fad 5 (.v 7)),
 p (.store (none) (.r 0) (.r 1))] [(0, .v 0), (2, .v 2), (6, .v 6), (7, .v 7), (8, .v 8), (9, .v 9)]))))
 (.reg false [p (.mov (.v 9)),
 p (.bin .add (.r 0) (.k (.int .i64 1))),
 p (.mov (.r 0))] [(0, .v 0), (2, .v 2), (6, .v 6), (7, .v 7), (8, .v 8), (9, .r 0)]))))))
 (.frz
 (.seq
 (.reg false [p (.load (some 6) (.v 7)),
 p (.call true (.k (.fn 17 [] [])) [.r 0]),
 p (.mov (.r 0)),
 p (.ext (.r 0) 0),
 p (.ext (.r 1) 1),
 p (.mov (.r 1)),
 p (.mov (.r 1))] [(0, .v 0), (2, .v 2), (7, .v 7), (12, .r 1), (13, .r 0)])
 (.seq
 (.seq
 (.reg false [p (.mov (.v 13)),
 p (.bin .neq (.r 0) (.k (.int .i64 0))),
 p (.mov (.r 0)),
 ⟨.mov (.v 12), some (0, false), []⟩,
 ⟨.mov (.v 0), some (1, false), []⟩,
 ⟨.bin .neq (.r 1) (.r 0), some (2, false), []⟩,
 p (.pick (.r 3) (.k (.bool true)) (.r 0))] [(2, .v 2), (7, .v 7), (73, .r 0)])
 (.cond (.v 73)
 (.seq
 (.reg false [p (.build [.int .i64 0, .str [], .int .i64 0, .int .i64 0, .int .i64 0, .fsl .nil 5 []] []),
 p (.store (some 6) (.v 2) (.r 0)),
 p (.mov (.k (.int .i64 230)))] [(2, .v 2), (3, .r 0)])
 .ret)
 .skip))
 (.seq
 (.reg false [p (.load (some 6) (.v 7)),
 p (.store (some 6) (.v 2) (.r 0)),
 p (.mov (.k (.int .i64 0)))] [(2, .v 2), (3, .r 0)])
 .ret)))))))))))))))
def r19 : List RV := [.c 2 (some 6), .t 3]
theorem chk19 : Chk Try.prog Try.f19 c19 r19 := ⟨_, rfl, by kernel_rfl, by kernel_rfl⟩
theorem en19 : EnP Try.prog 19 76 c19 r19 := mkEnP (by kernel_rfl) Try.func19 (by kernel_rfl) chk19

/-- `penelope/peneloperef19.SameStates` -/
def c49 : C :=
  (.seq
 (.reg false [p (.mov (.k (.bool false)))] [(0, .v 0), (1, .v 1)])
 (.seq
 (.seq
 (.reg false [p (.mov (.v 0)),
 p (.len false (.r 0)),
 p (.mov (.v 1)),
 p (.len false (.r 0)),
 p (.bin .neq (.r 2) (.r 0))] [(0, .v 0), (1, .v 1), (10, .r 0)])
 (.cond (.v 10)
 (.seq
 (.reg false [p (.mov (.k (.bool false)))] [(4, .r 0)])
 .ret)
 .skip))
 (.seq
 (.seq
 (.reg false [p (.mov (.v 0)),
 p (.len false (.r 0)),
 p (.mov (.k (.int .i64 0)))] [(0, .v 0), (1, .v 1), (12, .r 1), (13, .r 0)])
 (.block 0
 (.loop
 (.seq
 (.reg false [p (.bin .lss (.v 13) (.v 12))] [(0, .v 0), (1, .v 1), (12, .v 12), (13, .v 13), (14, .r 0)])
 (.seq
 (.cond (.v 14)
 .skip
 (.exit 0))
 (.seq
 (.block 1
 (.seq
 (.reg false [p (.mov (.v 13)),
 p (.mov (.r 0))] [(0, .v 0), (1, .v 1), (5, .r 0), (12, .v 12), (13, .v 13)])
 (.seq
 (.reg true [p (.mov (.v 0)),
 p (.mov (.v 5)),
 p (.iad 5 (.r 1) (.r 0)),
 p (.load (some 5) (.r 0)),
 p (.mov (.v 1)),
 p (.mov (.v 5)),
 p (.iad 5 (.r 1) (.r 0)),
 p (.load (some 5) (.r 0)),
 p (.eqs true [0, 0, 0, 0, 1] (.r 4) (.r 0))] [(0, .v 0), (1, .v 1), (12, .v 12), (13, .v 13), (24, .r 0)])
 (.cond (.v 24)
 (.seq
 (.reg false [p (.mov (.k (.bool false)))] [(4, .r 0)])
 .ret)
 .skip))))
 (.reg false [p (.bin .add (.v 13) (.k (.int .i64 1))),
 p (.mov (.r 0))] [(0, .v 0), (1, .v 1), (12, .v 12), (13, .r 0)])))))))
 (.frz
 (.seq
 (.reg false [p (.mov (.k (.bool true)))] [(4, .r 0)])
 .ret)))))
def r49 : List RV := [.t 4]
theorem chk49 : Chk Try.prog Try.f49 c49 r49 := ⟨_, rfl, by kernel_rfl, by kernel_rfl⟩
theorem en49 : EnP Try.prog 49 26 c49 r49 := mkEnP (by kernel_rfl) Try.func49 (by kernel_rfl) chk49

/-- `penelope/peneloperef20.LikeAnswer` -/
def c20 : C :=
  (.seq
 (.reg false [p (.box 6 (.v 0)),
 p (.box 6 (.v 1)),
 p (.mov (.k (.bool false)))] [(2, .r 2), (3, .r 1)])
 (.seq
 (.reg false [p (.fad 0 (.v 2)),
 p (.load (none) (.r 0)),
 p (.fad 0 (.v 3)),
 p (.load (none) (.r 0)),
 p (.bin .eql (.r 2) (.r 0)),
 p (.mov (.r 0)),
 ⟨.fad 1 (.v 2), some (0, true), []⟩,
 ⟨.load (none) (.r 0), some (1, true), []⟩,
 ⟨.fad 1 (.v 3), some (2, true), []⟩,
 ⟨.load (none) (.r 0), some (3, true), []⟩,
 ⟨.bin .eql (.r 2) (.r 0), some (4, true), []⟩,
 p (.pick (.r 5) (.r 0) (.k (.bool false))),
 p (.mov (.r 0)),
 ⟨.fad 2 (.v 2), some (0, true), []⟩,
 ⟨.load (none) (.r 0), some (1, true), []⟩,
 ⟨.fad 2 (.v 3), some (2, true), []⟩,
 ⟨.load (none) (.r 0), some (3, true), []⟩,
 ⟨.bin .eql (.r 2) (.r 0), some (4, true), []⟩,
 p (.pick (.r 5) (.r 0) (.k (.bool false))),
 p (.mov (.r 0)),
 ⟨.fad 3 (.v 2), some (0, true), []⟩,
 ⟨.load (none) (.r 0), some (1, true), []⟩,
 ⟨.fad 3 (.v 3), some (2, true), []⟩,
 ⟨.load (none) (.r 0), some (3, true), []⟩,
 ⟨.bin .eql (.r 2) (.r 0), some (4, true), []⟩,
 p (.pick (.r 5) (.r 0) (.k (.bool false))),
 p (.mov (.r 0)),
 ⟨.fad 4 (.v 2), some (0, true), []⟩,
 ⟨.load (none) (.r 0), some (1, true), []⟩,
 ⟨.fad 4 (.v 3), some (2, true), []⟩,
 ⟨.load (none) (.r 0), some (3, true), []⟩,
 ⟨.bin .eql (.r 2) (.r 0), some (4, true), []⟩,
 p (.pick (.r 5) (.r 0) (.k (.bool false))),
 p (.mov (.r 0)),
 ⟨.fad 5 (.v 2), some (0, true), []⟩,
 ⟨.load (none) (.r 0), some (1, true), []⟩,
 ⟨.fad 5 (.v 3), some (2, true), []⟩,
 ⟨.load (none) (.r 0), some (3, true), []⟩,
 ⟨.call true (.k (.fn 49 [] [])) [.r 2, .r 0], some (4, true), []⟩,
 p (.pick (.r 5) (.r 0) (.k (.bool false))),
 p (.mov (.r 0))] [(4, .r 0)])
 .ret))
def r20 : List RV := [.t 4]
theorem chk20 : Chk Try.prog Try.f20 c20 r20 := ⟨_, rfl, by kernel_rfl, by kernel_rfl⟩
theorem en20 : EnP Try.prog 20 45 c20 r20 := mkEnP (by kernel_rfl) Try.func20 (by kernel_rfl) chk20

/-- `penelope/penelopelaw23.brief` -/
def c15 : C :=
  (.seq
 (.reg false [p (.box 6 (.v 0)),
 p (.alloc 6 (.agg [.int .i64 0, .str [], .int .i64 0, .int .i64 0, .int .i64 0, .fsl .nil 5 []]))] [(1, .r 1), (2, .r 0)])
 (.seq
 (.reg true [p (.fad 1 (.v 1)),
 p (.load (none) (.r 0)),
 p (.fad 1 (.v 1)),
 p (.load (none) (.r 0)),
 p (.len true (.r 0)),
 p (.mnx false (.r 0) [.k (.int .i64 300)]),
 p (.sls (.r 4) none (some (.r 0))),
 p (.fad 5 (.v 1)),
 p (.load (none) (.r 0)),
 p (.fad 5 (.v 1)),
 p (.load (none) (.r 0)),
 p (.len false (.r 0)),
 p (.mnx false (.r 0) [.k (.int .i64 300)]),
 p (.slc 5 (.r 4) none (some (.r 0)) none),
 p (.fad 1 (.v 1)),
 ⟨.store (none) (.r 0) (.r 8), none, [1]⟩,
 p (.fad 5 (.v 1)),
 p (.store (none) (.r 0) (.r 3))] [(1, .v 1), (2, .v 2)])
 (.seq
 (.reg false [p (.load (some 6) (.v 1)),
 p (.store (some 6) (.v 2) (.r 0))] [(2, .v 2)])
 .ret)))
def r15 : List RV := [.c 2 (some 6)]
theorem chk15 : Chk Try.prog Try.f15 c15 r15 := ⟨_, rfl, by kernel_rfl, by kernel_rfl⟩
theorem en15 : EnP Try.prog 15 20 c15 r15 := mkEnP (by kernel_rfl) Try.func15 (by kernel_rfl) chk15

/-- `penelope/frame.bare` -/
def c50 : C :=
  (.seq
 (.reg false [p (.box 8 (.v 0)),
 p (.alloc 8 (.agg [.int .i64 0, .str [], .str [], .int .i64 0, .int .i64 0, .str [], .str [], .fsl .nil 4 []]))] [(1, .r 1), (2, .r 0)])
 (.seq
 (.reg false [p (.fad 0 (.v 1)),
 p (.load (none) (.r 0)),
 p (.build [.int .i64 0, .str [], .str [], .int .i64 0, .int .i64 0, .str [], .str [], .fsl .nil 4 []] [(0, 1, .r 0)]),
 p (.alloc 8 (.agg [.int .i64 0, .str [], .str [], .int .i64 0, .int .i64 0, .str [], .str [], .fsl .nil 4 []])),
 p (.store (some 8) (.r 0) (.r 1))] [(1, .v 1), (2, .v 2), (3, .r 1)])
 (.seq
 (.seq
 (.reg false [p (.fad 0 (.v 1)),
 p (.load (none) (.r 0))] [(1, .v 1), (2, .v 2), (3, .v 3), (8, .r 0)])
 (.block 0
 (.seq
 (.reg false [p (.bin .eql (.v 8) (.k (.int .i64 1))),
 p (.mov (.r 0))] [(1, .v 1), (2, .v 2), (3, .v 3), (8, .v 8), (9, .r 0)])
 (.cond (.v 9)
 (.reg false [p (.fad 6 (.v 1)),
 p (.load (some 2) (.r 0)),
 p (.fad 6 (.v 3)),
 p (.store (some 2) (.r 0) (.r 1))] [(2, .v 2), (3, .v 3)])
 (.seq
 (.reg false [p (.bin .eql (.v 8) (.k (.int .i64 2))),
 p (.mov (.r 0))] [(1, .v 1), (2, .v 2), (3, .v 3), (8, .v 8), (14, .r 0)])
 (.cond (.v 14)
 (.reg true [p (.fad 1 (.v 1)),
 p (.load (none) (.r 0)),
 p (.fad 2 (.v 1)),
 p (.load (none) (.r 0)),
 p (.fad 1 (.v 3)),
 ⟨.store (none) (.r 0) (.r 3), none, [1]⟩,
 p (.fad 2 (.v 3)),
 p (.store (none) (.r 0) (.r 3))] [(2, .v 2), (3, .v 3)])
 (.seq
 (.seq
 (.reg false [p (.bin .eql (.v 8) (.k (.int .i64 4))),
 p (.mov (.r 0))] [(1, .v 1), (2, .v 2), (3, .v 3), (8, .v 8), (22, .r 0)])
 (.cond (.v 22)
 .skip
 (.reg false [p (.bin .eql (.v 8) (.k (.int .i64 6))),
 p (.mov (.r 0))] [(1, .v 1), (2, .v 2), (3, .v 3), (8, .v 8), (22, .r 0)])))
 (.cond (.v 22)
 (.reg false [p (.fad 3 (.v 1)),
 p (.load (none) (.r 0)),
 p (.fad 3 (.v 3)),
 p (.store (none) (.r 0) (.r 1))] [(2, .v 2), (3, .v 3)])
 (.seq
 (.reg false [p (.bin .eql (.v 8) (.k (.int .i64 5))),
 p (.mov (.r 0))] [(1, .v 1), (2, .v 2), (3, .v 3), (8, .v 8), (28, .r 0)])
 (.cond (.v 28)
 (.reg true [p (.fad 3 (.v 1)),
 p (.load (none) (.r 0)),
 p (.fad 5 (.v 1)),
 p (.load (none) (.r 0)),
 p (.fad 3 (.v 3)),
 ⟨.store (none) (.r 0) (.r 3), none, [1]⟩,
 p (.fad 5 (.v 3)),
 p (.store (none) (.r 0) (.r 3))] [(2, .v 2), (3, .v 3)])
 (.seq
 (.seq
 (.reg false [p (.bin .eql (.v 8) (.k (.int .i64 7))),
 p (.mov (.r 0))] [(1, .v 1), (2, .v 2), (3, .v 3), (8, .v 8), (36, .r 0)])
 (.cond (.v 36)
 .skip
 (.reg false [p (.bin .eql (.v 8) (.k (.int .i64 9))),
 p (.mov (.r 0))] [(1, .v 1), (2, .v 2), (3, .v 3), (8, .v 8), (36, .r 0)])))
 (.cond (.v 36)
 (.reg false [p (.fad 1 (.v 1)),
 p (.load (none) (.r 0)),
 p (.fad 1 (.v 3)),
 p (.store (none) (.r 0) (.r 1))] [(2, .v 2), (3, .v 3)])
 (.seq
 (.reg false [p (.bin .eql (.v 8) (.k (.int .i64 8))),
 p (.mov (.r 0))] [(1, .v 1), (2, .v 2), (3, .v 3), (42, .r 0)])
 (.cond (.v 42)
 (.reg false [p (.fad 4 (.v 1)),
 p (.load (none) (.r 0)),
 p (.fad 4 (.v 3)),
 p (.store (none) (.r 0) (.r 1))] [(2, .v 2), (3, .v 3)])
 .skip))))))))))))))
 (.seq
 (.reg false [p (.load (some 8) (.v 3)),
 p (.store (some 8) (.v 2) (.r 0))] [(2, .v 2)])
 .ret))))
def r50 : List RV := [.c 2 (some 8)]
theorem chk50 : Chk Try.prog Try.f50 c50 r50 := ⟨_, rfl, by kernel_rfl, by kernel_rfl⟩
theorem en50 : EnP Try.prog 50 48 c50 r50 := mkEnP (by kernel_rfl) Try.func50 (by kernel_rfl) chk50

/-- `penelope/frame.clean` -/
def c21 : C :=
  (.seq
 (.reg false [p (.box 8 (.v 0)),
 p (.mov (.k (.bool false)))] [(1, .r 1)])
 (.seq
 (.reg false [p (.load (some 8) (.v 1)),
 p (.call true (.k (.fn 50 [] [])) [.r 0]),
 p (.alloc 8 (.agg [.int .i64 0, .str [], .str [], .int .i64 0, .int .i64 0, .str [], .str [], .fsl .nil 4 []])),
 p (.store (some 8) (.r 0) (.r 1))] [(1, .v 1), (3, .r 1)])
 (.seq
 (.reg false [p (.fad 1 (.v 3)),
 p (.load (none) (.r 0)),
 p (.fad 1 (.v 1)),
 p (.load (none) (.r 0)),
 p (.bin .eql (.r 2) (.r 0)),
 p (.mov (.r 0)),
 ⟨.fad 2 (.v 3), some (0, true), []⟩,
 ⟨.load (none) (.r 0), some (1, true), []⟩,
 ⟨.fad 2 (.v 1), some (2, true), []⟩,
 ⟨.load (none) (.r 0), some (3, true), []⟩,
 ⟨.bin .eql (.r 2) (.r 0), some (4, true), []⟩,
 p (.pick (.r 5) (.r 0) (.k (.bool false))),
 p (.mov (.r 0)),
 ⟨.fad 3 (.v 3), some (0, true), []⟩,
 ⟨.load (none) (.r 0), some (1, true), []⟩,
 ⟨.fad 3 (.v 1), some (2, true), []⟩,
 ⟨.load (none) (.r 0), some (3, true), []⟩,
 ⟨.bin .eql (.r 2) (.r 0), some (4, true), []⟩,
 p (.pick (.r 5) (.r 0) (.k (.bool false))),
 p (.mov (.r 0)),
 ⟨.fad 4 (.v 3), some (0, true), []⟩,
 ⟨.load (none) (.r 0), some (1, true), []⟩,
 ⟨.fad 4 (.v 1), some (2, true), []⟩,
 ⟨.load (none) (.r 0), some (3, true), []⟩,
 ⟨.bin .eql (.r 2) (.r 0), some (4, true), []⟩,
 p (.pick (.r 5) (.r 0) (.k (.bool false))),
 p (.mov (.r 0)),
 ⟨.fad 5 (.v 3), some (0, true), []⟩,
 ⟨.load (none) (.r 0), some (1, true), []⟩,
 ⟨.fad 5 (.v 1), some (2, true), []⟩,
 ⟨.load (none) (.r 0), some (3, true), []⟩,
 ⟨.bin .eql (.r 2) (.r 0), some (4, true), []⟩,
 p (.pick (.r 5) (.r 0) (.k (.bool false))),
 p (.mov (.r 0)),
 ⟨.fad 6 (.v 3), some (0, true), []⟩,
 ⟨.fad 0 (.r 0), some (1, true), []⟩,
 ⟨.load (none) (.r 0), some (2, true), []⟩,
 ⟨.fad 6 (.v 1), some (3, true), []⟩,
 ⟨.fad 0 (.r 0), some (4, true), []⟩,
 ⟨.load (none) (.r 0), some (5, true), []⟩,
 ⟨.bin .eql (.r 3) (.r 0), some (6, true), []⟩,
 p (.pick (.r 7) (.r 0) (.k (.bool false))),
 p (.mov (.r 0)),
 ⟨.fad 6 (.v 3), some (0, true), []⟩,
 ⟨.fad 1 (.r 0), some (1, true), []⟩,
 ⟨.load (none) (.r 0), some (2, true), []⟩,
 ⟨.len false (.r 0), some (3, true), []⟩,
 ⟨.fad 6 (.v 1), some (4, true), []⟩,
 ⟨.fad 1 (.r 0), some (5, true), []⟩,
 ⟨.load (none) (.r 0), some (6, true), []⟩,
 ⟨.len false (.r 0), some (7, true), []⟩,
 ⟨.bin .eql (.r 4) (.r 0), some (8, true), []⟩,
 p (.pick (.r 9) (.r 0) (.k (.bool false))),
 p (.mov (.r 0))] [(2, .r 0)])
 .ret)))
def r21 : List RV := [.t 2]
theorem chk21 : Chk Try.prog Try.f21 c21 r21 := ⟨_, rfl, by kernel_rfl, by kernel_rfl⟩
theorem en21 : EnP Try.prog 21 59 c21 r21 := mkEnP (by kernel_rfl) Try.func21 (by kernel_rfl) chk21

/-- `penelope/frame.Put` -/
def c8 : C :=
  (.seq
 (.reg false [p (.box 8 (.v 0)),
 p (.mov (.k (.str []))),
 p (.mov (.k (.int .i64 0)))] [(1, .r 2)])
 (.seq
 (.seq
 (.reg false [p (.fad 0 (.v 1)),
 p (.load (none) (.r 0)),
 p (.bin .lss (.r 0) (.k (.int .i64 1))),
 p (.mov (.r 0)),
 ⟨.fad 0 (.v 1), some (0, false), []⟩,
 ⟨.load (none) (.r 0), some (1, false), []⟩,
 ⟨.bin .gtr (.r 0) (.k (.int .i64 10)), some (2, false), []⟩,
 p (.pick (.r 3) (.k (.bool true)) (.r 0)),
 p (.mov (.r 0)),
 ⟨.load (some 8) (.v 1), some (0, false), []⟩,
 ⟨.call true (.k (.fn 21 [] [])) [.r 0], some (1, false), []⟩,
 ⟨.un .not (.r 0), some (2, false), []⟩,
 p (.pick (.r 3) (.k (.bool true)) (.r 0))] [(1, .v 1), (19, .r 0)])
 (.cond (.v 19)
 (.seq
 (.reg false [p (.mov (.k (.str []))),
 p (.mov (.k (.int .i64 1)))] [(2, .r 1), (3, .r 0)])
 .ret)
 .skip))
 (.seq
 (.reg false [p (.build [.str [], .bool false] []),
 p (.box 2 (.r 0)),
 p (.mov (.r 0))] [(1, .v 1), (4, .r 0)])
 (.seq
 (.reg false [p (.mov (.v 4)),
 p (.fad 0 (.v 1)),
 p (.load (none) (.r 0)),
 p (.call false (.k (.fn 22 [] [])) [.r 2, .r 0, .k (.int .i64 1)])] [(1, .v 1), (4, .v 4)])
 (.seq
 (.seq
 (.reg false [p (.fad 0 (.v 1)),
 p (.load (none) (.r 0))] [(1, .v 1), (4, .v 4), (27, .r 0)])
 (.block 0
 (.seq
 (.reg false [p (.bin .eql (.v 27) (.k (.int .i64 1))),
 p (.mov (.r 0))] [(1, .v 1), (4, .v 4), (27, .v 27), (28, .r 0)])
 (.cond (.v 28)
 (.seq
 (.reg false [p (.fad 6 (.v 1)),
 p (.load (some 2) (.r 0)),
 p (.call true (.k (.fn 23 [] [])) [.r 0]),
 p (.mov (.r 0)),
 p (.ext (.r 0) 0),
 p (.ext (.r 1) 1),
 p (.mov (.r 1)),
 p (.mov (.r 1))] [(4, .v 4), (5, .r 1), (6, .r 0)])
 (.reg true [p (.mov (.v 4)),
 p (.mov (.v 4)),
 p (.mov (.v 4)),
 p (.nck (.r 0)),
 p (.fad 0 (.r 0)),
 p (.load (none) (.r 0)),
 p (.mov (.v 5)),
 p (.bsl 1 [.r 1, .r 0]),
 p (.call true (.k (.fn 24 [] [])) [.r 0]),
 p (.mov (.v 4)),
 p (.nck (.r 0)),
 p (.fad 1 (.r 0)),
 p (.load (none) (.r 0)),
 p (.mov (.r 0)),
 ⟨.mov (.v 6), some (0, false), []⟩,
 ⟨.bin .neq (.r 0) (.k (.int .i64 0)), some (1, false), []⟩,
 p (.pick (.r 2) (.k (.bool true)) (.r 0)),
 p (.nck (.r 16)),
 p (.fad 0 (.r 0)),
 p (.store (none) (.r 0) (.r 10)),
 p (.nck (.r 18)),
 p (.fad 1 (.r 0)),
 p (.store (none) (.r 0) (.r 5))] [(4, .v 4)]))
 (.seq
 (.reg false [p (.bin .eql (.v 27) (.k (.int .i64 2))),
 p (.mov (.r 0))] [(1, .v 1), (4, .v 4), (27, .v 27), (57, .r 0)])
 (.cond (.v 57)
 (.seq
 (.reg false [p (.mov (.v 4)),
 p (.fad 1 (.v 1)),
 p (.load (none) (.r 0)),
 p (.call false (.k (.fn 25 [] [])) [.r 2, .r 0])] [(1, .v 1), (4, .v 4)])
 (.reg false [p (.mov (.v 4)),
 p (.fad 2 (.v 1)),
 p (.load (none) (.r 0)),
 p (.call false (.k (.fn 25 [] [])) [.r 2, .r 0])] [(4, .v 4)]))
 (.seq
 (.seq
 (.reg false [p (.bin .eql (.v 27) (.k (.int .i64 4))),
 p (.mov (.r 0))] [(1, .v 1), (4, .v 4), (27, .v 27), (67, .r 0)])
 (.cond (.v 67)
 .skip
 (.reg false [p (.bin .eql (.v 27) (.k (.int .i64 6))),
 p (.mov (.r 0))] [(1, .v 1), (4, .v 4), (27, .v 27), (67, .r 0)])))
 (.cond (.v 67)
 (.reg false [p (.mov (.v 4)),
 p (.fad 3 (.v 1)),
 p (.load (none) (.r 0)),
 p (.call false (.k (.fn 22 [] [])) [.r 2, .r 0, .k (.int .i64 6)])] [(4, .v 4)])
 (.seq
 (.reg false [p (.bin .eql (.v 27) (.k (.int .i64 5))),
 p (.mov (.r 0))] [(1, .v 1), (4, .v 4), (27, .v 27), (74, .r 0)])
 (.cond (.v 74)
 (.seq
 (.reg false [p (.mov (.v 4)),
 p (.fad 3 (.v 1)),
 p (.load (none) (.r 0)),
 p (.call false (.k (.fn 22 [] [])) [.r 2, .r 0, .k (.int .i64 6)])] [(1, .v 1), (4, .v 4)])
 (.reg false [p (.mov (.v 4)),
 p (.fad 5 (.v 1)),
 p (.load (none) (.r 0)),
 p (.call false (.k (.fn 25 [] [])) [.r 2, .r 0])] [(4, .v 4)]))
 (.seq
 (.seq
 (.reg false [p (.bin .eql (.v 27) (.k (.int .i64 7))),
 p (.mov (.r 0))] [(1, .v 1), (4, .v 4), (27, .v 27), (84, .r 0)])
 (.cond (.v 84)
 .skip
 (.reg false [p (.bin .eql (.v 27) (.k (.int .i64 9))),
 p (.mov (.r 0))] [(1, .v 1), (4, .v 4), (27, .v 27), (84, .r 0)])))
 (.cond (.v 84)
 (.reg false [p (.mov (.v 4)),
 p (.fad 1 (.v 1)),
 p (.load (none) (.r 0)),
 p (.call false (.k (.fn 25 [] [])) [.r 2, .r 0])] [(4, .v 4)])
 (.seq
 (.reg false [p (.bin .eql (.v 27) (.k (.int .i64 8))),
 p (.mov (.r 0))] [(1, .v 1), (4, .v 4), (91, .r 0)])
 (.cond (.v 91)
 (.reg false [p (.mov (.v 4)),
 p (.fad 4 (.v 1)),
 p (.load (none) (.r 0)),
 p (.call false (.k (.fn 22 [] [])) [.r 2, .r 0, .k (.int .i64 6)])] [(4, .v 4)])
 .skip))))))))))))))
 (.seq
 (.reg false [p (.mov (.v 4)),
 p (.call false (.k (.fn 26 [] [])) [.r 0]),
 p (.ext (.r 0) 0),
 p (.ext (.r 1) 1),
 p (.mov (.r 1)),
 p (.mov (.r 1))] [(2, .r 1), (3, .r 0)])
 .ret))))))
def r8 : List RV := [.t 2, .t 3]
theorem chk8 : Chk Try.prog Try.f8 c8 r8 := ⟨_, rfl, by kernel_rfl, by kernel_rfl⟩
theorem en8 : EnP Try.prog 8 101 c8 r8 := mkEnP (by kernel_rfl) Try.func8 (by kernel_rfl) chk8

/-- `penelope/penelopelaw23.alive` -/
def c12 : C :=
  (.seq
 (.reg false [p (.mov (.k (.bool false)))] [])
 (.seq
 (.reg false [p (.build [.int .i64 0, .str [], .str [], .int .i64 0, .int .i64 0, .str [], .str [], .fsl .nil 4 []] [(0, 1, .k (.int .i64 3))]),
 p (.call true (.k (.fn 8 [] [])) [.r 0]),
 p (.mov (.r 0)),
 p (.ext (.r 0) 0),
 p (.ext (.r 1) 1),
 p (.mov (.r 1)),
 p (.mov (.r 1))] [(1, .r 1), (2, .r 0)])
 (.seq
 (.reg false [p (.mov (.v 2)),
 p (.bin .eql (.r 0) (.k (.int .i64 0))),
 p (.mov (.r 0)),
 ⟨.mov (.v 1), some (0, true), []⟩,
 ⟨.len true (.r 0), some (1, true), []⟩,
 ⟨.bin .eql (.r 0) (.k (.int .i64 5)), some (2, true), []⟩,
 p (.pick (.r 3) (.r 0) (.k (.bool false))),
 p (.mov (.r 0))] [(0, .r 0)])
 .ret)))
def r12 : List RV := [.t 0]
theorem chk12 : Chk Try.prog Try.f12 c12 r12 := ⟨_, rfl, by kernel_rfl, by kernel_rfl⟩
theorem en12 : EnP Try.prog 12 15 c12 r12 := mkEnP (by kernel_rfl) Try.func12 (by kernel_rfl) chk12

/-- `penelope/penelopelaw23.FrameAnswers` -/
def c5 : C :=
  (.seq
 (.reg false [p (.box 6 (.v 0)),
 p (.mov (.k (.bool false)))] [(1, .v 1), (2, .r 1)])
 (.seq
 (.reg true [p (.load (some 6) (.v 2)),
 p (.call true (.k (.fn 15 [] [])) [.r 0]),
 p (.mov (.v 1)),
 p (.mov (.v 1)),
 p (.len true (.r 0)),
 p (.mnx false (.r 0) [.k (.int .i64 3000)]),
 p (.sls (.r 3) none (some (.r 0))),
 p (.store (some 6) (.v 2) (.r 5)),
 p (.mov (.r 1))] [(1, .r 0), (2, .v 2)])
 (.seq
 (.reg false [p (.load (some 6) (.v 2)),
 p (.call true (.k (.fn 16 [] [])) [.r 0]),
 p (.mov (.r 0)),
 p (.ext (.r 0) 0),
 p (.ext (.r 1) 1),
 p (.mov (.r 1)),
 p (.mov (.r 1))] [(1, .v 1), (2, .v 2), (5, .r 1), (6, .r 0)])
 (.seq
 (.reg false [p (.load (some 6) (.v 2)),
 p (.call true (.k (.fn 17 [] [])) [.r 0]),
 p (.mov (.r 0)),
 p (.ext (.r 0) 0),
 p (.ext (.r 1) 1),
 p (.mov (.r 1)),
 p (.mov (.r 1))] [(1, .v 1), (5, .v 5), (6, .v 6), (7, .r 1), (8, .r 0)])
 (.seq
 (.reg false [p (.mov (.v 1)),
 p (.call true (.k (.fn 18 [] [])) [.r 0]),
 p (.mov (.r 0)),
 p (.ext (.r 0) 0),
 p (.ext (.r 1) 1),
 p (.alloc 6 (.agg [.int .i64 0, .str [], .int .i64 0, .int .i64 0, .int .i64 0, .fsl .nil 5 []])),
 p (.store (some 6) (.r 0) (.r 2)),
 p (.mov (.r 2))] [(1, .v 1), (5, .v 5), (6, .v 6), (7, .v 7), (8, .v 8), (9, .r 2), (10, .r 0)])
 (.seq
 (.reg false [p (.mov (.v 1)),
 p (.call true (.k (.fn 19 [] [])) [.r 0]),
 p (.mov (.r 0)),
 p (.ext (.r 0) 0),
 p (.ext (.r 1) 1),
 p (.alloc 6 (.agg [.int .i64 0, .str [], .int .i64 0, .int .i64 0, .int .i64 0, .fsl .nil 5 []])),
 p (.store (some 6) (.r 0) (.r 2)),
 p (.mov (.r 2))] [(5, .v 5), (6, .v 6), (7, .v 7), (8, .v 8), (9, .v 9), (10, .v 10), (11, .r 2), (12, .r 0)])
 (.seq
 (.reg false [p (.call true (.k (.fn 12 [] [])) []),
 p (.mov (.r 0)),
 ⟨.mov (.v 5), some (0, true), []⟩,
 ⟨.mov (.v 7), some (1, true), []⟩,
 ⟨.bin .eql (.r 1) (.r 0), some (2, true), []⟩,
 p (.pick (.r 3) (.r 0) (.k (.bool false))),
 p (.mov (.r 0)),
 ⟨.mov (.v 6), some (0, true), []⟩,
 ⟨.mov (.v 8), some (1, true), []⟩,
 ⟨.bin .eql (.r 1) (.r 0), some (2, true), []⟩,
 p (.pick (.r 3) (.r 0) (.k (.bool false))),
 p (.mov (.r 0)),
 ⟨.load (some 6) (.v 9), some (0, true), []⟩,
 ⟨.load (some 6) (.v 11), some (1, true), []⟩,
 ⟨.call true (.k (.fn 20 [] [])) [.r 1, .r 0], some (2, true), []⟩,
 p (.pick (.r 3) (.r 0) (.k (.bool false))),
 p (.mov (.r 0)),
 ⟨.mov (.v 10), some (0, true), []⟩,
 ⟨.mov (.v 12), some (1, true), []⟩,
 ⟨.bin .eql (.r 1) (.r 0), some (2, true), []⟩,
 p (.pick (.r 3) (.r 0) (.k (.bool false))),
 p (.mov (.r 0))] [(4, .r 0)])
 .ret)))))))
def r5 : List RV := [.t 4]
theorem chk5 : Chk Try.prog Try.f5 c5 r5 := ⟨_, rfl, by kernel_rfl, by kernel_rfl⟩
theorem en5 : EnP Try.prog 5 61 c5 r5 := mkEnP (by kernel_rfl) Try.func5 (by kernel_rfl) chk5


end Go.Proofs.Ytjlpmndipceboaa.Ev
end
section
set_option linter.unusedSimpArgs false
set_option linter.unusedVariables false
set_option maxRecDepth 10000
namespace Go.Proofs.Ytjlpmndipceboaa.Ev
open Go

theorem fin_An {rvs : List RV} {r : V} {σ : Sg} {H : Hp} {l : List V} {m0 : Hm} {n k : Nat} {ds : List (Nat × Option Ob)} (hl : resE σ H.m rvs = some l) (hr : pack l = r ∨ loosen (pack l) = r ∨ lo (pack l) = r) (hk : H.n ≤ n + k) (hm : ∀ id, appd ds m0 id = none ∨ appd ds m0 id = H.m id) : FinA rvs m0 n r ds k .norm σ H :=
  ⟨.inl rfl, ⟨l, hl, hr⟩, hk, hm⟩
theorem c255 (n : Nat) : ((255 : Int) < (n : Int)) ↔ 255 < n := by omega
theorem two_flat (a b : Str) : [a, b].flatten = a ++ b := by simp

/-! The document's reader: where it is, and what went wrong. -/
def rdV (s : Str) (r : Int × Int) : Ob := .arr 3 [.agg [.str s, .int .i64 r.1, .int .i64 r.2]]
def nextS (s : Str) (r : Int × Int) (k : Int) : Int × Int × Int := if r.2 = 0 then getS s r.1 k else (0, r.1, r.2)
def txtS (s : Str) (r : Int × Int) : Str × Int × Int := if r.2 = 0 then cutS s r.1 else ([], r.1, r.2)

theorem r_next (H : Hp) (b : Nat) (s : Str) (r : Int × Int) (k : Int) (hs : s.length ≤ 1000000000) (hb : b < H.n) (hm : H.m b = some (rdV s r)) :
    ACall Try.prog 46 [.ptr b 0 0, .int .i64 k] H [b] (.int .i64 (nextS s r k).1) [(b, some (rdV s (nextS s r k).2))] 0 := by
  refine ena46 (by simp) (by simp [lowL, V.low, hb]) (fun id hid => ?_) (by simp) ?_
  · simp at hid; subst hid
    exact ⟨hb, fun o ho => by rw [hm] at ho; simp at ho; subst ho; rfl⟩
  have q1 : only [b] H.m b = some (rdV s r) := by simp [only, hm]
  obtain ⟨a, e⟩ := r
  have q2 := q1
  unfold rdV at q1
  by_cases c : e = 0
  · subst c
    simp (maxSteps := 1000000) (disch := omega) only [rg, opX, opI, look, nth, setN, outO, binO, intO, strO, argsE, appd, cpyO, slcO, slsO, bndO, lo1, mnxO, bldO, bldV, splice, rd, fpS, lk, isNil, Nat.reduceBEq, Nat.reduceEqDiff, Nat.reduceAdd, Int.reduceEq, Int.reduceLT, Int.reduceLE, Int.reduceToNat, reduceIte, reduceCtorEq, Nat.reduceLeDiff, Nat.reduceLT, Nat.reduceMul, Nat.reduceSub, c46, q1]
    refine ⟨_, ref_get s a k hs, ?_⟩
    simp (maxSteps := 1000000) (disch := omega) only [rg, opX, opI, look, nth, setN, outO, binO, intO, strO, argsE, appd, cpyO, slcO, slsO, bndO, lo1, mnxO, bldO, bldV, splice, rd, fpS, lk, isNil, Nat.reduceBEq, Nat.reduceEqDiff, Nat.reduceAdd, Int.reduceEq, Int.reduceLT, Int.reduceLE, Int.reduceToNat, reduceIte, reduceCtorEq, Nat.reduceLeDiff, Nat.reduceLT, Nat.reduceMul, Nat.reduceSub, gV, q1]
    exact fin_A (l := [.int .i64 (getS s a k).1]) rfl (.inl (by simp [pack, nextS])) (by simp) (fun id => .inr (by by_cases h : id = b <;> simp [appd, upd, h, rdV, nextS]))
  · simp (maxSteps := 1000000) (disch := omega) only [rg, opX, opI, look, nth, setN, outO, binO, intO, strO, argsE, appd, cpyO, slcO, slsO, bndO, lo1, mnxO, bldO, bldV, splice, rd, fpS, lk, isNil, Nat.reduceBEq, Nat.reduceEqDiff, Nat.reduceAdd, Int.reduceEq, Int.reduceLT, Int.reduceLE, Int.reduceToNat, reduceIte, reduceCtorEq, Nat.reduceLeDiff, Nat.reduceLT, Nat.reduceMul, Nat.reduceSub, c46, q1, c]
    exact fin_A (l := [.int .i64 0]) rfl (.inl (by simp [pack, nextS, c])) (by simp) (fun id => .inr (by by_cases h : id = b <;> simp [appd, upd, h, nextS, c, q2]))

theorem r_text (H : Hp) (b : Nat) (s : Str) (r : Int × Int) (hs : s.length ≤ 1000000000) (hb : b < H.n) (hm : H.m b = some (rdV s r)) :
    ACall Try.prog 47 [.ptr b 0 0] H [b] (.str (txtS s r).1) [(b, some (rdV s (txtS s r).2))] 0 := by
  refine ena47 (by simp) (by simp [lowL, V.low, hb]) (fun id hid => ?_) (by simp) ?_
  · simp at hid; subst hid
    exact ⟨hb, fun o ho => by rw [hm] at ho; simp at ho; subst ho; rfl⟩
  have q1 : only [b] H.m b = some (rdV s r) := by simp [only, hm]
  obtain ⟨a, e⟩ := r
  have q2 := q1
  unfold rdV at q1
  by_cases c : e = 0
  · subst c
    simp (maxSteps := 1000000) (disch := omega) only [rg, opX, opI, look, nth, setN, outO, binO, intO, strO, argsE, appd, cpyO, slcO, slsO, bndO, lo1, mnxO, bldO, bldV, splice, rd, fpS, lk, isNil, Nat.reduceBEq, Nat.reduceEqDiff, Nat.reduceAdd, Int.reduceEq, Int.reduceLT, Int.reduceLE, Int.reduceToNat, reduceIte, reduceCtorEq, Nat.reduceLeDiff, Nat.reduceLT, Nat.reduceMul, Nat.reduceSub, c47, q1]
    refine ⟨_, ref_cut s a hs, ?_⟩
    simp (maxSteps := 1000000) (disch := omega) only [rg, opX, opI, look, nth, setN, outO, binO, intO, strO, argsE, appd, cpyO, slcO, slsO, bndO, lo1, mnxO, bldO, bldV, splice, rd, fpS, lk, isNil, Nat.reduceBEq, Nat.reduceEqDiff, Nat.reduceAdd, Int.reduceEq, Int.reduceLT, Int.reduceLE, Int.reduceToNat, reduceIte, reduceCtorEq, Nat.reduceLeDiff, Nat.reduceLT, Nat.reduceMul, Nat.reduceSub, cV, q1]
    exact fin_A (l := [.str (cutS s a).1]) rfl (.inl (by simp [pack, txtS])) (by simp) (fun id => .inr (by by_cases h : id = b <;> simp [appd, upd, h, rdV, txtS]))
  · simp (maxSteps := 1000000) (disch := omega) only [rg, opX, opI, look, nth, setN, outO, binO, intO, strO, argsE, appd, cpyO, slcO, slsO, bndO, lo1, mnxO, bldO, bldV, splice, rd, fpS, lk, isNil, Nat.reduceBEq, Nat.reduceEqDiff, Nat.reduceAdd, Int.reduceEq, Int.reduceLT, Int.reduceLE, Int.reduceToNat, reduceIte, reduceCtorEq, Nat.reduceLeDiff, Nat.reduceLT, Nat.reduceMul, Nat.reduceSub, c47, q1, c]
    exact fin_A (l := [.str []]) rfl (.inl (by simp [pack, txtS, c])) (by simp) (fun id => .inr (by by_cases h : id = b <;> simp [appd, upd, h, txtS, c, q2]))

/-! The program's reader. -/
def fdV (s : Str) (r : Int × Bool) : Ob := .arr 3 [.agg [.str s, .int .i64 r.1, .bool r.2]]
def numF (s : Str) (r : Int × Bool) (k : Int) : Int × Int × Bool := if r.2 = false then ((getS s r.1 k).1, (getS s r.1 k).2.1, !decide ((getS s r.1 k).2.2 = 0)) else (0, r.1, r.2)
def txtF (s : Str) (r : Int × Bool) : Str × Int × Bool := if r.2 = false then ((cutS s r.1).1, (cutS s r.1).2.1, !decide ((cutS s r.1).2.2 = 0) || decide (255 < (cutS s r.1).1.length)) else ([], r.1, r.2)

theorem f_num (H : Hp) (b : Nat) (s : Str) (r : Int × Bool) (k : Int) (hs : s.length ≤ 1000000000) (hb : b < H.n) (hm : H.m b = some (fdV s r)) :
    ACall Try.prog 35 [.ptr b 0 0, .int .i64 k] H [b] (.int .i64 (numF s r k).1) [(b, some (fdV s (numF s r k).2))] 0 := by
  refine ena35 (by simp) (by simp [lowL, V.low, hb]) (fun id hid => ?_) (by simp) ?_
  · simp at hid; subst hid
    exact ⟨hb, fun o ho => by rw [hm] at ho; simp at ho; subst ho; rfl⟩
  have q1 : only [b] H.m b = some (fdV s r) := by simp [only, hm]
  obtain ⟨a, e⟩ := r
  have q2 := q1
  unfold fdV at q1
  cases e with
  | false =>
    simp (maxSteps := 1000000) (disch := omega) only [rg, opX, opI, look, nth, setN, outO, binO, intO, strO, argsE, appd, cpyO, slcO, slsO, bndO, lo1, mnxO, bldO, bldV, splice, rd, fpS, lk, isNil, Nat.reduceBEq, Nat.reduceEqDiff, Nat.reduceAdd, Int.reduceEq, Int.reduceLT, Int.reduceLE, Int.reduceToNat, reduceIte, reduceCtorEq, Nat.reduceLeDiff, Nat.reduceLT, Nat.reduceMul, Nat.reduceSub, c35, q1]
    refine ⟨_, code_get s a k hs, ?_⟩
    simp (maxSteps := 1000000) (disch := omega) only [rg, opX, opI, look, nth, setN, outO, binO, intO, strO, argsE, appd, cpyO, slcO, slsO, bndO, lo1, mnxO, bldO, bldV, splice, rd, fpS, lk, isNil, Nat.reduceBEq, Nat.reduceEqDiff, Nat.reduceAdd, Int.reduceEq, Int.reduceLT, Int.reduceLE, Int.reduceToNat, reduceIte, reduceCtorEq, Nat.reduceLeDiff, Nat.reduceLT, Nat.reduceMul, Nat.reduceSub, gV, q1]
    exact fin_A (l := [.int .i64 (getS s a k).1]) rfl (.inl (by simp [pack, numF])) (by simp) (fun id => .inr (by by_cases h : id = b <;> simp [appd, upd, h, fdV, numF]))
  | true =>
    simp (maxSteps := 1000000) (disch := omega) only [rg, opX, opI, look, nth, setN, outO, binO, intO, strO, argsE, appd, cpyO, slcO, slsO, bndO, lo1, mnxO, bldO, bldV, splice, rd, fpS, lk, isNil, Nat.reduceBEq, Nat.reduceEqDiff, Nat.reduceAdd, Int.reduceEq, Int.reduceLT, Int.reduceLE, Int.reduceToNat, reduceIte, reduceCtorEq, Nat.reduceLeDiff, Nat.reduceLT, Nat.reduceMul, Nat.reduceSub, c35, q1]
    exact fin_A (l := [.int .i64 0]) rfl (.inl (by simp [pack, numF])) (by simp) (fun id => .inr (by by_cases h : id = b <;> simp [appd, upd, h, numF, q2]))

theorem cutS_len (s : Str) (a : Int) : (cutS s a).1.length ≤ s.length := by
  unfold cutS; simp only
  split
  · simp
  · split
    · simp
    · simp; omega

theorem f_text (H : Hp) (b : Nat) (s : Str) (r : Int × Bool) (hs : s.length ≤ 1000000000) (hb : b < H.n) (hm : H.m b = some (fdV s r)) :
    ACall Try.prog 36 [.ptr b 0 0] H [b] (.str (txtF s r).1) [(b, some (fdV s (txtF s r).2))] 0 := by
  refine ena36 (by simp) (by simp [lowL, V.low, hb]) (fun id hid => ?_) (by simp) ?_
  · simp at hid; subst hid
    exact ⟨hb, fun o ho => by rw [hm] at ho; simp at ho; subst ho; rfl⟩
  have q1 : only [b] H.m b = some (fdV s r) := by simp [only, hm]
  obtain ⟨a, e⟩ := r
  have q2 := q1
  unfold fdV at q1
  have hcl := cutS_len s a
  cases e with
  | false =>
    simp (maxSteps := 1000000) (disch := omega) only [rg, opX, opI, look, nth, setN, outO, binO, intO, strO, argsE, appd, cpyO, slcO, slsO, bndO, lo1, mnxO, bldO, bldV, splice, rd, fpS, lk, isNil, Nat.reduceBEq, Nat.reduceEqDiff, Nat.reduceAdd, Int.reduceEq, Int.reduceLT, Int.reduceLE, Int.reduceToNat, reduceIte, reduceCtorEq, Nat.reduceLeDiff, Nat.reduceLT, Nat.reduceMul, Nat.reduceSub, c36, q1]
    refine ⟨_, code_cut s a hs, ?_⟩
    by_cases c : (cutS s a).2.2 = 0
    · simp (maxSteps := 1000000) (disch := omega) only [rg, opX, opI, look, nth, setN, outO, binO, intO, strO, argsE, appd, cpyO, slcO, slsO, bndO, lo1, mnxO, bldO, bldV, splice, rd, fpS, lk, isNil, Nat.reduceBEq, Nat.reduceEqDiff, Nat.reduceAdd, Int.reduceEq, Int.reduceLT, Int.reduceLE, Int.reduceToNat, reduceIte, reduceCtorEq, Nat.reduceLeDiff, Nat.reduceLT, Nat.reduceMul, Nat.reduceSub, cV, q1, c]
      exact fin_A (l := [.str (cutS s a).1]) rfl (.inl (by simp [pack, txtF])) (by simp) (fun id => .inr (by by_cases h : id = b <;> simp [appd, upd, h, fdV, txtF, c, c255]))
    · simp (maxSteps := 1000000) (disch := omega) only [rg, opX, opI, look, nth, setN, outO, binO, intO, strO, argsE, appd, cpyO, slcO, slsO, bndO, lo1, mnxO, bldO, bldV, splice, rd, fpS, lk, isNil, Nat.reduceBEq, Nat.reduceEqDiff, Nat.reduceAdd, Int.reduceEq, Int.reduceLT, Int.reduceLE, Int.reduceToNat, reduceIte, reduceCtorEq, Nat.reduceLeDiff, Nat.reduceLT, Nat.reduceMul, Nat.reduceSub, cV, q1, c]
      exact fin_A (l := [.str (cutS s a).1]) rfl (.inl (by simp [pack, txtF])) (by simp) (fun id => .inr (by by_cases h : id = b <;> simp [appd, upd, h, fdV, txtF, c, c255]))
  | true =>
    simp (maxSteps := 1000000) (disch := omega) only [rg, opX, opI, look, nth, setN, outO, binO, intO, strO, argsE, appd, cpyO, slcO, slsO, bndO, lo1, mnxO, bldO, bldV, splice, rd, fpS, lk, isNil, Nat.reduceBEq, Nat.reduceEqDiff, Nat.reduceAdd, Int.reduceEq, Int.reduceLT, Int.reduceLE, Int.reduceToNat, reduceIte, reduceCtorEq, Nat.reduceLeDiff, Nat.reduceLT, Nat.reduceMul, Nat.reduceSub, c36, q1]
    exact fin_A (l := [.str []]) rfl (.inl (by simp [pack, txtF])) (by simp) (fun id => .inr (by by_cases h : id = b <;> simp [appd, upd, h, txtF, q2]))

theorem f_read (H : Hp) (s : Str) (hs : s.length ≤ 1000000000) : ACall Try.prog 34 [.str s] H [] (.ptr H.n 0 0) [(H.n, some (fdV (openS s).1 (0, !decide ((openS s).2 = 0))))] 1 := by
  refine ena34 (by simp) (by simp [lowL, V.low]) (fun id hid => by simp at hid) (by simp) ?_
  simp (maxSteps := 1000000) (disch := omega) only [rg, opX, opI, look, nth, setN, outO, binO, intO, strO, argsE, appd, cpyO, slcO, slsO, bndO, lo1, mnxO, bldO, bldV, splice, rd, fpS, lk, isNil, Nat.reduceBEq, Nat.reduceEqDiff, Nat.reduceAdd, Int.reduceEq, Int.reduceLT, Int.reduceLE, Int.reduceToNat, reduceIte, reduceCtorEq, Nat.reduceLeDiff, Nat.reduceLT, Nat.reduceMul, Nat.reduceSub, c34]
  refine ⟨_, sum_open s hs, ?_⟩
  simp (maxSteps := 1000000) (disch := omega) only [rg, opX, opI, look, nth, setN, outO, binO, intO, strO, argsE, appd, cpyO, slcO, slsO, bndO, lo1, mnxO, bldO, bldV, splice, rd, fpS, lk, isNil, Nat.reduceBEq, Nat.reduceEqDiff, Nat.reduceAdd, Int.reduceEq, Int.reduceLT, Int.reduceLE, Int.reduceToNat, reduceIte, reduceCtorEq, Nat.reduceLeDiff, Nat.reduceLT, Nat.reduceMul, Nat.reduceSub, sV]
  exact fin_A (l := [.ptr H.n 0 0]) rfl (.inl rfl) (by simp) (fun id => .inr (by by_cases h : id = H.n <;> simp [appd, upd, h, fdV, only]))

/-! The program's writer. -/
def wrV (r : Str × Bool) : Ob := .arr 2 [.agg [.str r.1, .bool r.2]]
def wNum (r : Str × Bool) (n k : Int) : Str × Bool := (r.1 ++ (putS n k).1, r.2 || !decide ((putS n k).2 = 0))
def wTxt (r : Str × Bool) (t : Str) : Str × Bool := (r.1 ++ (textS t).1, (r.2 || !decide ((textS t).2 = 0)) || decide (255 < t.length))

theorem w_num (H : Hp) (b : Nat) (r : Str × Bool) (n k : Int) (hr : r.1.length ≤ 1000000000) (hn : n ≤ 9223372036854775807) (hb : b < H.n) (hm : H.m b = some (wrV r)) :
    ACall Try.prog 22 [.ptr b 0 0, .int .i64 n, .int .i64 k] H [b] (.tup []) [(b, some (wrV (wNum r n k)))] 0 := by
  refine ena22 (by simp) (by simp [lowL, V.low, hb]) (fun id hid => ?_) (by simp) ?_
  · simp at hid; subst hid
    exact ⟨hb, fun o ho => by rw [hm] at ho; simp at ho; subst ho; rfl⟩
  have q1 : only [b] H.m b = some (wrV r) := by simp [only, hm]
  obtain ⟨a, e⟩ := r
  have hpl := putS_len n k
  unfold wrV at q1
  simp (maxSteps := 1000000) (disch := omega) only [rg, opX, opI, look, nth, setN, outO, binO, intO, strO, argsE, appd, cpyO, slcO, slsO, bndO, lo1, mnxO, bldO, bldV, splice, rd, fpS, lk, isNil, Nat.reduceBEq, Nat.reduceEqDiff, Nat.reduceAdd, Int.reduceEq, Int.reduceLT, Int.reduceLE, Int.reduceToNat, reduceIte, reduceCtorEq, Nat.reduceLeDiff, Nat.reduceLT, Nat.reduceMul, Nat.reduceSub, c22]
  refine ⟨_, code_put n k hn, ?_⟩
  simp (maxSteps := 1000000) (disch := omega) only [rg, opX, opI, look, nth, setN, outO, binO, intO, strO, argsE, appd, cpyO, slcO, slsO, bndO, lo1, mnxO, bldO, bldV, splice, rd, fpS, lk, isNil, Nat.reduceBEq, Nat.reduceEqDiff, Nat.reduceAdd, Int.reduceEq, Int.reduceLT, Int.reduceLE, Int.reduceToNat, reduceIte, reduceCtorEq, Nat.reduceLeDiff, Nat.reduceLT, Nat.reduceMul, Nat.reduceSub, sV, q1]
  refine ⟨_, code_all .full [a, (putS n k).1] (by simp) (by simp at hr ⊢; omega), ?_⟩
  rw [two_flat]
  cases e with
  | false =>
    simp (maxSteps := 1000000) (disch := omega) only [rg, opX, opI, look, nth, setN, outO, binO, intO, strO, argsE, appd, cpyO, slcO, slsO, bndO, lo1, mnxO, bldO, bldV, splice, rd, fpS, lk, isNil, Nat.reduceBEq, Nat.reduceEqDiff, Nat.reduceAdd, Int.reduceEq, Int.reduceLT, Int.reduceLE, Int.reduceToNat, reduceIte, reduceCtorEq, Nat.reduceLeDiff, Nat.reduceLT, Nat.reduceMul, Nat.reduceSub, q1]
    exact fin_An (l := []) rfl (.inl rfl) (by simp) (fun id => .inr (by by_cases h : id = b <;> simp [appd, upd, h, wrV, wNum]))
  | true =>
    simp (maxSteps := 1000000) (disch := omega) only [rg, opX, opI, look, nth, setN, outO, binO, intO, strO, argsE, appd, cpyO, slcO, slsO, bndO, lo1, mnxO, bldO, bldV, splice, rd, fpS, lk, isNil, Nat.reduceBEq, Nat.reduceEqDiff, Nat.reduceAdd, Int.reduceEq, Int.reduceLT, Int.reduceLE, Int.reduceToNat, reduceIte, reduceCtorEq, Nat.reduceLeDiff, Nat.reduceLT, Nat.reduceMul, Nat.reduceSub, q1]
    exact fin_An (l := []) rfl (.inl rfl) (by simp) (fun id => .inr (by by_cases h : id = b <;> simp [appd, upd, h, wrV, wNum]))

theorem textS_len (s : Str) : (textS s).1.length ≤ s.length + 2 := by
  unfold textS; split
  · simp
  · simp [beS_len]; omega
theorem w_text (H : Hp) (b : Nat) (r : Str × Bool) (t : Str) (hr : r.1.length ≤ 1000000000) (ht : t.length ≤ 1000000000) (hb : b < H.n) (hm : H.m b = some (wrV r)) :
    ACall Try.prog 25 [.ptr b 0 0, .str t] H [b] (.tup []) [(b, some (wrV (wTxt r t)))] 0 := by
  refine ena25 (by simp) (by simp [lowL, V.low, hb]) (fun id hid => ?_) (by simp) ?_
  · simp at hid; subst hid
    exact ⟨hb, fun o ho => by rw [hm] at ho; simp at ho; subst ho; rfl⟩
  have q1 : only [b] H.m b = some (wrV r) := by simp [only, hm]
  obtain ⟨a, e⟩ := r
  have hpl := textS_len t
  unfold wrV at q1
  simp (maxSteps := 1000000) (disch := omega) only [rg, opX, opI, look, nth, setN, outO, binO, intO, strO, argsE, appd, cpyO, slcO, slsO, bndO, lo1, mnxO, bldO, bldV, splice, rd, fpS, lk, isNil, Nat.reduceBEq, Nat.reduceEqDiff, Nat.reduceAdd, Int.reduceEq, Int.reduceLT, Int.reduceLE, Int.reduceToNat, reduceIte, reduceCtorEq, Nat.reduceLeDiff, Nat.reduceLT, Nat.reduceMul, Nat.reduceSub, c25]
  refine ⟨_, code_text t ht, ?_⟩
  simp (maxSteps := 1000000) (disch := omega) only [rg, opX, opI, look, nth, setN, outO, binO, intO, strO, argsE, appd, cpyO, slcO, slsO, bndO, lo1, mnxO, bldO, bldV, splice, rd, fpS, lk, isNil, Nat.reduceBEq, Nat.reduceEqDiff, Nat.reduceAdd, Int.reduceEq, Int.reduceLT, Int.reduceLE, Int.reduceToNat, reduceIte, reduceCtorEq, Nat.reduceLeDiff, Nat.reduceLT, Nat.reduceMul, Nat.reduceSub, sV, q1]
  refine ⟨_, code_all .full [a, (textS t).1] (by simp) (by simp at hr ⊢; omega), ?_⟩
  rw [two_flat]
  by_cases c : (textS t).2 = 0
  · cases e with
    | false =>
      simp (maxSteps := 1000000) (disch := omega) only [rg, opX, opI, look, nth, setN, outO, binO, intO, strO, argsE, appd, cpyO, slcO, slsO, bndO, lo1, mnxO, bldO, bldV, splice, rd, fpS, lk, isNil, Nat.reduceBEq, Nat.reduceEqDiff, Nat.reduceAdd, Int.reduceEq, Int.reduceLT, Int.reduceLE, Int.reduceToNat, reduceIte, reduceCtorEq, Nat.reduceLeDiff, Nat.reduceLT, Nat.reduceMul, Nat.reduceSub, q1, c]
      exact fin_An (l := []) rfl (.inl rfl) (by simp) (fun id => .inr (by by_cases h : id = b <;> simp [appd, upd, h, wrV, wTxt, c, c255]))
    | true =>
      simp (maxSteps := 1000000) (disch := omega) only [rg, opX, opI, look, nth, setN, outO, binO, intO, strO, argsE, appd, cpyO, slcO, slsO, bndO, lo1, mnxO, bldO, bldV, splice, rd, fpS, lk, isNil, Nat.reduceBEq, Nat.reduceEqDiff, Nat.reduceAdd, Int.reduceEq, Int.reduceLT, Int.reduceLE, Int.reduceToNat, reduceIte, reduceCtorEq, Nat.reduceLeDiff, Nat.reduceLT, Nat.reduceMul, Nat.reduceSub, q1, c]
      exact fin_An (l := []) rfl (.inl rfl) (by simp) (fun id => .inr (by by_cases h : id = b <;> simp [appd, upd, h, wrV, wTxt, c, c255]))
  · cases e with
    | false =>
      simp (maxSteps := 1000000) (disch := omega) only [rg, opX, opI, look, nth, setN, outO, binO, intO, strO, argsE, appd, cpyO, slcO, slsO, bndO, lo1, mnxO, bldO, bldV, splice, rd, fpS, lk, isNil, Nat.reduceBEq, Nat.reduceEqDiff, Nat.reduceAdd, Int.reduceEq, Int.reduceLT, Int.reduceLE, Int.reduceToNat, reduceIte, reduceCtorEq, Nat.reduceLeDiff, Nat.reduceLT, Nat.reduceMul, Nat.reduceSub, q1, c]
      exact fin_An (l := []) rfl (.inl rfl) (by simp) (fun id => .inr (by by_cases h : id = b <;> simp [appd, upd, h, wrV, wTxt, c, c255]))
    | true =>
      simp (maxSteps := 1000000) (disch := omega) only [rg, opX, opI, look, nth, setN, outO, binO, intO, strO, argsE, appd, cpyO, slcO, slsO, bndO, lo1, mnxO, bldO, bldV, splice, rd, fpS, lk, isNil, Nat.reduceBEq, Nat.reduceEqDiff, Nat.reduceAdd, Int.reduceEq, Int.reduceLT, Int.reduceLE, Int.reduceToNat, reduceIte, reduceCtorEq, Nat.reduceLeDiff, Nat.reduceLT, Nat.reduceMul, Nat.reduceSub, q1, c]
      exact fin_An (l := []) rfl (.inl rfl) (by simp) (fun id => .inr (by by_cases h : id = b <;> simp [appd, upd, h, wrV, wTxt, c, c255]))

def wEnd (r : Str × Bool) : Str × Int := if r.2 = true then ([], 1) else (sealS r.1, 0)
theorem w_end (H : Hp) (b : Nat) (r : Str × Bool) (hr : r.1.length ≤ 1000000000) (hb : b < H.n) (hm : H.m b = some (wrV r)) :
    ACall Try.prog 26 [.ptr b 0 0] H [b] (sV (wEnd r)) [] 0 := by
  refine ena26 (by simp) (by simp [lowL, V.low, hb]) (fun id hid => ?_) (by simp) ?_
  · simp at hid; subst hid
    exact ⟨hb, fun o ho => by rw [hm] at ho; simp at ho; subst ho; rfl⟩
  have q1 : only [b] H.m b = some (wrV r) := by simp [only, hm]
  obtain ⟨a, e⟩ := r
  unfold wrV at q1
  cases e with
  | false =>
    simp (maxSteps := 1000000) (disch := omega) only [rg, opX, opI, look, nth, setN, outO, binO, intO, strO, argsE, appd, cpyO, slcO, slsO, bndO, lo1, mnxO, bldO, bldV, splice, rd, fpS, lk, isNil, Nat.reduceBEq, Nat.reduceEqDiff, Nat.reduceAdd, Int.reduceEq, Int.reduceLT, Int.reduceLE, Int.reduceToNat, reduceIte, reduceCtorEq, Nat.reduceLeDiff, Nat.reduceLT, Nat.reduceMul, Nat.reduceSub, c26, q1]
    refine ⟨_, sum_seal a hr, ?_⟩
    simp (maxSteps := 1000000) (disch := omega) only [rg, opX, opI, look, nth, setN, outO, binO, intO, strO, argsE, appd, cpyO, slcO, slsO, bndO, lo1, mnxO, bldO, bldV, splice, rd, fpS, lk, isNil, Nat.reduceBEq, Nat.reduceEqDiff, Nat.reduceAdd, Int.reduceEq, Int.reduceLT, Int.reduceLE, Int.reduceToNat, reduceIte, reduceCtorEq, Nat.reduceLeDiff, Nat.reduceLT, Nat.reduceMul, Nat.reduceSub]
    exact fin_A (l := [.str (sealS a), .int .i64 0]) rfl (.inl (by simp [pack, sV, wEnd])) (by simp) (fun id => .inr rfl)
  | true =>
    simp (maxSteps := 1000000) (disch := omega) only [rg, opX, opI, look, nth, setN, outO, binO, intO, strO, argsE, appd, cpyO, slcO, slsO, bndO, lo1, mnxO, bldO, bldV, splice, rd, fpS, lk, isNil, Nat.reduceBEq, Nat.reduceEqDiff, Nat.reduceAdd, Int.reduceEq, Int.reduceLT, Int.reduceLE, Int.reduceToNat, reduceIte, reduceCtorEq, Nat.reduceLeDiff, Nat.reduceLT, Nat.reduceMul, Nat.reduceSub, c26, q1]
    exact fin_A (l := [.str [], .int .i64 1]) rfl (.inl (by simp [pack, sV, wEnd])) (by simp) (fun id => .inr rfl)

end Go.Proofs.Ytjlpmndipceboaa.Ev
end
section
set_option linter.unusedSimpArgs false
set_option linter.unusedVariables false
set_option maxRecDepth 10000
namespace Go.Proofs.Ytjlpmndipceboaa.Ev
open Go

def stNumS (s : Stt) : Bool := decide (0 ≤ s.is ∧ s.is ≤ 5 ∧ 0 ≤ s.tried ∧ s.tried ≤ 8 ∧ 0 ≤ s.due ∧ s.due ≤ 1099511627776)
def standsS (s : Stt) : Bool := stNumS s && decide (0 ≤ s.token ∧ s.token ≤ 1099511627776 ∧ (0 < s.token ↔ s.is = 2) ∧ s.result.length ≤ 16 ∧ (s.result = [] ∨ s.is = 3))

theorem task_stands (s : Stt) (hs : s.result.length ≤ 4611686018427387904) : PCall Try.prog 69 [sttV s] (.bool (standsS s)) := by
  refine en69 (by simp) (by simp [closedL, V.closed, sttV_closed]) ?_
  have no : stNumS s = false → standsS s = false := fun h => by simp [standsS, h]
  simp (maxSteps := 1000000) (disch := omega) only [rg, opX, opI, look, nth, setN, outO, binO, intO, strO, argsE, appd, cpyO, slcO, slsO, bndO, lo1, mnxO, bldO, bldV, splice, rd, fpS, lk, isNil, Nat.reduceBEq, Nat.reduceEqDiff, Nat.reduceAdd, Int.reduceEq, Int.reduceLT, Int.reduceLE, Int.reduceToNat, reduceIte, reduceCtorEq, Nat.reduceLeDiff, Nat.reduceLT, Nat.reduceMul, Nat.reduceSub, c69, sttV]
  by_cases c1 : s.is < 0
  · simp (maxSteps := 1000000) (disch := omega) only [rg, opX, opI, look, nth, setN, outO, binO, intO, strO, argsE, appd, cpyO, slcO, slsO, bndO, lo1, mnxO, bldO, bldV, splice, rd, fpS, lk, isNil, Nat.reduceBEq, Nat.reduceEqDiff, Nat.reduceAdd, Int.reduceEq, Int.reduceLT, Int.reduceLE, Int.reduceToNat, reduceIte, reduceCtorEq, Nat.reduceLeDiff, Nat.reduceLT, Nat.reduceMul, Nat.reduceSub, c1]
    (refine fin_x rfl ?_ ?_ <;> simp [pack, lo, loL, V.closed, closedL, mv_closed, no (by simp [stNumS]; omega)])
  by_cases c2 : 5 < s.is
  · simp (maxSteps := 1000000) (disch := omega) only [rg, opX, opI, look, nth, setN, outO, binO, intO, strO, argsE, appd, cpyO, slcO, slsO, bndO, lo1, mnxO, bldO, bldV, splice, rd, fpS, lk, isNil, Nat.reduceBEq, Nat.reduceEqDiff, Nat.reduceAdd, Int.reduceEq, Int.reduceLT, Int.reduceLE, Int.reduceToNat, reduceIte, reduceCtorEq, Nat.reduceLeDiff, Nat.reduceLT, Nat.reduceMul, Nat.reduceSub, c1, c2]
    (refine fin_x rfl ?_ ?_ <;> simp [pack, lo, loL, V.closed, closedL, mv_closed, no (by simp [stNumS]; omega)])
  by_cases c3 : s.tried < 0
  · simp (maxSteps := 1000000) (disch := omega) only [rg, opX, opI, look, nth, setN, outO, binO, intO, strO, argsE, appd, cpyO, slcO, slsO, bndO, lo1, mnxO, bldO, bldV, splice, rd, fpS, lk, isNil, Nat.reduceBEq, Nat.reduceEqDiff, Nat.reduceAdd, Int.reduceEq, Int.reduceLT, Int.reduceLE, Int.reduceToNat, reduceIte, reduceCtorEq, Nat.reduceLeDiff, Nat.reduceLT, Nat.reduceMul, Nat.reduceSub, c1, c2, c3]
    (refine fin_x rfl ?_ ?_ <;> simp [pack, lo, loL, V.closed, closedL, mv_closed, no (by simp [stNumS]; omega)])
  by_cases c4 : 8 < s.tried
  · simp (maxSteps := 1000000) (disch := omega) only [rg, opX, opI, look, nth, setN, outO, binO, intO, strO, argsE, appd, cpyO, slcO, slsO, bndO, lo1, mnxO, bldO, bldV, splice, rd, fpS, lk, isNil, Nat.reduceBEq, Nat.reduceEqDiff, Nat.reduceAdd, Int.reduceEq, Int.reduceLT, Int.reduceLE, Int.reduceToNat, reduceIte, reduceCtorEq, Nat.reduceLeDiff, Nat.reduceLT, Nat.reduceMul, Nat.reduceSub, c1, c2, c3, c4]
    (refine fin_x rfl ?_ ?_ <;> simp [pack, lo, loL, V.closed, closedL, mv_closed, no (by simp [stNumS]; omega)])
  by_cases c5 : s.due < 0
  · simp (maxSteps := 1000000) (disch := omega) only [rg, opX, opI, look, nth, setN, outO, binO, intO, strO, argsE, appd, cpyO, slcO, slsO, bndO, lo1, mnxO, bldO, bldV, splice, rd, fpS, lk, isNil, Nat.reduceBEq, Nat.reduceEqDiff, Nat.reduceAdd, Int.reduceEq, Int.reduceLT, Int.reduceLE, Int.reduceToNat, reduceIte, reduceCtorEq, Nat.reduceLeDiff, Nat.reduceLT, Nat.reduceMul, Nat.reduceSub, c1, c2, c3, c4, c5]
    (refine fin_x rfl ?_ ?_ <;> simp [pack, lo, loL, V.closed, closedL, mv_closed, no (by simp [stNumS]; omega)])
  by_cases c6 : 1099511627776 < s.due
  · simp (maxSteps := 1000000) (disch := omega) only [rg, opX, opI, look, nth, setN, outO, binO, intO, strO, argsE, appd, cpyO, slcO, slsO, bndO, lo1, mnxO, bldO, bldV, splice, rd, fpS, lk, isNil, Nat.reduceBEq, Nat.reduceEqDiff, Nat.reduceAdd, Int.reduceEq, Int.reduceLT, Int.reduceLE, Int.reduceToNat, reduceIte, reduceCtorEq, Nat.reduceLeDiff, Nat.reduceLT, Nat.reduceMul, Nat.reduceSub, c1, c2, c3, c4, c5, c6]
    (refine fin_x rfl ?_ ?_ <;> simp [pack, lo, loL, V.closed, closedL, mv_closed, no (by simp [stNumS]; omega)])
  have yes : stNumS s = true := by simp [stNumS]; omega
  have hS : standsS s = decide (0 ≤ s.token ∧ s.token ≤ 1099511627776 ∧ (0 < s.token ↔ s.is = 2) ∧ s.result.length ≤ 16 ∧ (s.result = [] ∨ s.is = 3)) := by rw [standsS, yes, Bool.true_and]
  by_cases d1 : s.token < 0
  · simp (maxSteps := 1000000) (disch := omega) only [rg, opX, opI, look, nth, setN, outO, binO, intO, strO, argsE, appd, cpyO, slcO, slsO, bndO, lo1, mnxO, bldO, bldV, splice, rd, fpS, lk, isNil, Nat.reduceBEq, Nat.reduceEqDiff, Nat.reduceAdd, Int.reduceEq, Int.reduceLT, Int.reduceLE, Int.reduceToNat, reduceIte, reduceCtorEq, Nat.reduceLeDiff, Nat.reduceLT, Nat.reduceMul, Nat.reduceSub, c1, c2, c3, c4, c5, c6, d1]
    (refine fin_x rfl ?_ ?_ <;> simp [pack, lo, loL, V.closed, closedL, mv_closed, hS.trans (decide_eq_false (by omega))])
  by_cases d2 : 1099511627776 < s.token
  · simp (maxSteps := 1000000) (disch := omega) only [rg, opX, opI, look, nth, setN, outO, binO, intO, strO, argsE, appd, cpyO, slcO, slsO, bndO, lo1, mnxO, bldO, bldV, splice, rd, fpS, lk, isNil, Nat.reduceBEq, Nat.reduceEqDiff, Nat.reduceAdd, Int.reduceEq, Int.reduceLT, Int.reduceLE, Int.reduceToNat, reduceIte, reduceCtorEq, Nat.reduceLeDiff, Nat.reduceLT, Nat.reduceMul, Nat.reduceSub, c1, c2, c3, c4, c5, c6, d1, d2]
    (refine fin_x rfl ?_ ?_ <;> simp [pack, lo, loL, V.closed, closedL, mv_closed, hS.trans (decide_eq_false (by omega))])
  simp (maxSteps := 1000000) (disch := omega) only [rg, opX, opI, look, nth, setN, outO, binO, intO, strO, argsE, appd, cpyO, slcO, slsO, bndO, lo1, mnxO, bldO, bldV, splice, rd, fpS, lk, isNil, Nat.reduceBEq, Nat.reduceEqDiff, Nat.reduceAdd, Int.reduceEq, Int.reduceLT, Int.reduceLE, Int.reduceToNat, reduceIte, reduceCtorEq, Nat.reduceLeDiff, Nat.reduceLT, Nat.reduceMul, Nat.reduceSub, c1, c2, c3, c4, c5, c6, d1, d2]
  refine ⟨fun h => ?_, fun h => ⟨fun h2 => ⟨fun h3 => ?_, fun h3 => ?_⟩, fun h2 => ?_⟩⟩
  · have h' : ¬ (0 < s.token ↔ s.is = 2) := fun hc => by simp [hc] at h
    (refine fin_x rfl ?_ ?_ <;> simp [pack, lo, loL, V.closed, closedL, mv_closed, hS.trans (decide_eq_false (fun hc => h' hc.2.2.1))])
  · have h' : (0 < s.token ↔ s.is = 2) := by simpa using h
    have e : standsS s = decide (s.is = 3) := by
      rw [hS]
      have : s.result.length ≤ 16 := by omega
      by_cases c3 : s.is = 3
      · rw [decide_eq_true c3]; exact decide_eq_true ⟨by omega, by omega, h', this, .inr c3⟩
      · rw [decide_eq_false c3]; exact decide_eq_false (fun hc => hc.2.2.2.2.elim h3 c3)
    (refine fin_x rfl ?_ ?_ <;> simp [pack, lo, loL, V.closed, closedL, mv_closed, e])
  · have h' : (0 < s.token ↔ s.is = 2) := by simpa using h
    (refine fin_x rfl ?_ ?_ <;> simp [pack, lo, loL, V.closed, closedL, mv_closed, hS.trans (decide_eq_true ⟨by omega, by omega, h', by omega, .inl h3⟩)])
  · (refine fin_x rfl ?_ ?_ <;> simp [pack, lo, loL, V.closed, closedL, mv_closed, hS.trans (decide_eq_false (by omega))])

theorem ref_stands (s : Stt) (hs : s.result.length ≤ 4611686018427387904) : PCall Try.prog 43 [sttV s] (.bool (standsS s)) := by
  refine en43 (by simp) (by simp [closedL, V.closed, sttV_closed]) ?_
  have no : stNumS s = false → standsS s = false := fun h => by simp [standsS, h]
  simp (maxSteps := 1000000) (disch := omega) only [rg, opX, opI, look, nth, setN, outO, binO, intO, strO, argsE, appd, cpyO, slcO, slsO, bndO, lo1, mnxO, bldO, bldV, splice, rd, fpS, lk, isNil, Nat.reduceBEq, Nat.reduceEqDiff, Nat.reduceAdd, Int.reduceEq, Int.reduceLT, Int.reduceLE, Int.reduceToNat, reduceIte, reduceCtorEq, Nat.reduceLeDiff, Nat.reduceLT, Nat.reduceMul, Nat.reduceSub, c43, sttV]
  by_cases c1 : s.is < 0
  · simp (maxSteps := 1000000) (disch := omega) only [rg, opX, opI, look, nth, setN, outO, binO, intO, strO, argsE, appd, cpyO, slcO, slsO, bndO, lo1, mnxO, bldO, bldV, splice, rd, fpS, lk, isNil, Nat.reduceBEq, Nat.reduceEqDiff, Nat.reduceAdd, Int.reduceEq, Int.reduceLT, Int.reduceLE, Int.reduceToNat, reduceIte, reduceCtorEq, Nat.reduceLeDiff, Nat.reduceLT, Nat.reduceMul, Nat.reduceSub, c1]
    (refine fin_x rfl ?_ ?_ <;> simp [pack, lo, loL, V.closed, closedL, mv_closed, no (by simp [stNumS]; omega)])
  by_cases c2 : 5 < s.is
  · simp (maxSteps := 1000000) (disch := omega) only [rg, opX, opI, look, nth, setN, outO, binO, intO, strO, argsE, appd, cpyO, slcO, slsO, bndO, lo1, mnxO, bldO, bldV, splice, rd, fpS, lk, isNil, Nat.reduceBEq, Nat.reduceEqDiff, Nat.reduceAdd, Int.reduceEq, Int.reduceLT, Int.reduceLE, Int.reduceToNat, reduceIte, reduceCtorEq, Nat.reduceLeDiff, Nat.reduceLT, Nat.reduceMul, Nat.reduceSub, c1, c2]
    (refine fin_x rfl ?_ ?_ <;> simp [pack, lo, loL, V.closed, closedL, mv_closed, no (by simp [stNumS]; omega)])
  by_cases c3 : s.tried < 0
  · simp (maxSteps := 1000000) (disch := omega) only [rg, opX, opI, look, nth, setN, outO, binO, intO, strO, argsE, appd, cpyO, slcO, slsO, bndO, lo1, mnxO, bldO, bldV, splice, rd, fpS, lk, isNil, Nat.reduceBEq, Nat.reduceEqDiff, Nat.reduceAdd, Int.reduceEq, Int.reduceLT, Int.reduceLE, Int.reduceToNat, reduceIte, reduceCtorEq, Nat.reduceLeDiff, Nat.reduceLT, Nat.reduceMul, Nat.reduceSub, c1, c2, c3]
    (refine fin_x rfl ?_ ?_ <;> simp [pack, lo, loL, V.closed, closedL, mv_closed, no (by simp [stNumS]; omega)])
  by_cases c4 : 8 < s.tried
  · simp (maxSteps := 1000000) (disch := omega) only [rg, opX, opI, look, nth, setN, outO, binO, intO, strO, argsE, appd, cpyO, slcO, slsO, bndO, lo1, mnxO, bldO, bldV, splice, rd, fpS, lk, isNil, Nat.reduceBEq, Nat.reduceEqDiff, Nat.reduceAdd, Int.reduceEq, Int.reduceLT, Int.reduceLE, Int.reduceToNat, reduceIte, reduceCtorEq, Nat.reduceLeDiff, Nat.reduceLT, Nat.reduceMul, Nat.reduceSub, c1, c2, c3, c4]
    (refine fin_x rfl ?_ ?_ <;> simp [pack, lo, loL, V.closed, closedL, mv_closed, no (by simp [stNumS]; omega)])
  by_cases c5 : s.due < 0
  · simp (maxSteps := 1000000) (disch := omega) only [rg, opX, opI, look, nth, setN, outO, binO, intO, strO, argsE, appd, cpyO, slcO, slsO, bndO, lo1, mnxO, bldO, bldV, splice, rd, fpS, lk, isNil, Nat.reduceBEq, Nat.reduceEqDiff, Nat.reduceAdd, Int.reduceEq, Int.reduceLT, Int.reduceLE, Int.reduceToNat, reduceIte, reduceCtorEq, Nat.reduceLeDiff, Nat.reduceLT, Nat.reduceMul, Nat.reduceSub, c1, c2, c3, c4, c5]
    (refine fin_x rfl ?_ ?_ <;> simp [pack, lo, loL, V.closed, closedL, mv_closed, no (by simp [stNumS]; omega)])
  by_cases c6 : 1099511627776 < s.due
  · simp (maxSteps := 1000000) (disch := omega) only [rg, opX, opI, look, nth, setN, outO, binO, intO, strO, argsE, appd, cpyO, slcO, slsO, bndO, lo1, mnxO, bldO, bldV, splice, rd, fpS, lk, isNil, Nat.reduceBEq, Nat.reduceEqDiff, Nat.reduceAdd, Int.reduceEq, Int.reduceLT, Int.reduceLE, Int.reduceToNat, reduceIte, reduceCtorEq, Nat.reduceLeDiff, Nat.reduceLT, Nat.reduceMul, Nat.reduceSub, c1, c2, c3, c4, c5, c6]
    (refine fin_x rfl ?_ ?_ <;> simp [pack, lo, loL, V.closed, closedL, mv_closed, no (by simp [stNumS]; omega)])
  have yes : stNumS s = true := by simp [stNumS]; omega
  have hS : standsS s = decide (0 ≤ s.token ∧ s.token ≤ 1099511627776 ∧ (0 < s.token ↔ s.is = 2) ∧ s.result.length ≤ 16 ∧ (s.result = [] ∨ s.is = 3)) := by rw [standsS, yes, Bool.true_and]
  by_cases d2 : 1099511627776 < s.token
  · simp (maxSteps := 1000000) (disch := omega) only [rg, opX, opI, look, nth, setN, outO, binO, intO, strO, argsE, appd, cpyO, slcO, slsO, bndO, lo1, mnxO, bldO, bldV, splice, rd, fpS, lk, isNil, Nat.reduceBEq, Nat.reduceEqDiff, Nat.reduceAdd, Int.reduceEq, Int.reduceLT, Int.reduceLE, Int.reduceToNat, reduceIte, reduceCtorEq, Nat.reduceLeDiff, Nat.reduceLT, Nat.reduceMul, Nat.reduceSub, c1, c2, c3, c4, c5, c6, d2]
    (refine fin_x rfl ?_ ?_ <;> simp [pack, lo, loL, V.closed, closedL, mv_closed, hS.trans (decide_eq_false (by omega))])
  by_cases d3 : 16 < s.result.length
  · simp (maxSteps := 1000000) (disch := omega) only [rg, opX, opI, look, nth, setN, outO, binO, intO, strO, argsE, appd, cpyO, slcO, slsO, bndO, lo1, mnxO, bldO, bldV, splice, rd, fpS, lk, isNil, Nat.reduceBEq, Nat.reduceEqDiff, Nat.reduceAdd, Int.reduceEq, Int.reduceLT, Int.reduceLE, Int.reduceToNat, reduceIte, reduceCtorEq, Nat.reduceLeDiff, Nat.reduceLT, Nat.reduceMul, Nat.reduceSub, c1, c2, c3, c4, c5, c6, d2, show (16 : Int) < s.result.length by omega]
    (refine fin_x rfl ?_ ?_ <;> simp [pack, lo, loL, V.closed, closedL, mv_closed, hS.trans (decide_eq_false (by omega))])
  by_cases d4 : s.is = 2
  · by_cases d5 : s.token < 1
    · simp (maxSteps := 1000000) (disch := omega) only [rg, opX, opI, look, nth, setN, outO, binO, intO, strO, argsE, appd, cpyO, slcO, slsO, bndO, lo1, mnxO, bldO, bldV, splice, rd, fpS, lk, isNil, Nat.reduceBEq, Nat.reduceEqDiff, Nat.reduceAdd, Int.reduceEq, Int.reduceLT, Int.reduceLE, Int.reduceToNat, reduceIte, reduceCtorEq, Nat.reduceLeDiff, Nat.reduceLT, Nat.reduceMul, Nat.reduceSub, c1, c2, c3, c4, c5, c6, d2, show ¬ (16 : Int) < s.result.length by omega, d4, d5]
      (refine fin_x rfl ?_ ?_ <;> simp [pack, lo, loL, V.closed, closedL, mv_closed, hS.trans (decide_eq_false (by omega))])
    · simp (maxSteps := 1000000) (disch := omega) only [rg, opX, opI, look, nth, setN, outO, binO, intO, strO, argsE, appd, cpyO, slcO, slsO, bndO, lo1, mnxO, bldO, bldV, splice, rd, fpS, lk, isNil, Nat.reduceBEq, Nat.reduceEqDiff, Nat.reduceAdd, Int.reduceEq, Int.reduceLT, Int.reduceLE, Int.reduceToNat, reduceIte, reduceCtorEq, Nat.reduceLeDiff, Nat.reduceLT, Nat.reduceMul, Nat.reduceSub, c1, c2, c3, c4, c5, c6, d2, show ¬ (16 : Int) < s.result.length by omega, d4, d5]
      have e : standsS s = decide (s.result = []) := by
        rw [hS]
        by_cases h3 : s.result = []
        · rw [decide_eq_true h3]; exact decide_eq_true ⟨by omega, by omega, by omega, by omega, .inl h3⟩
        · rw [decide_eq_false h3]; exact decide_eq_false (fun hc => hc.2.2.2.2.elim h3 (by omega))
      (refine fin_x rfl ?_ ?_ <;> simp [pack, lo, loL, V.closed, closedL, mv_closed, e])
  · by_cases d5 : s.token = 0
    · simp (maxSteps := 1000000) (disch := omega) only [rg, opX, opI, look, nth, setN, outO, binO, intO, strO, argsE, appd, cpyO, slcO, slsO, bndO, lo1, mnxO, bldO, bldV, splice, rd, fpS, lk, isNil, Nat.reduceBEq, Nat.reduceEqDiff, Nat.reduceAdd, Int.reduceEq, Int.reduceLT, Int.reduceLE, Int.reduceToNat, reduceIte, reduceCtorEq, Nat.reduceLeDiff, Nat.reduceLT, Nat.reduceMul, Nat.reduceSub, c1, c2, c3, c4, c5, c6, d2, show ¬ (16 : Int) < s.result.length by omega, d4, d5]
      refine ⟨fun h => ?_, fun h => ?_⟩
      · have e : standsS s = decide (s.result = []) := by
          rw [hS]
          by_cases h3 : s.result = []
          · rw [decide_eq_true h3]; exact decide_eq_true ⟨by omega, by omega, by omega, by omega, .inl h3⟩
          · rw [decide_eq_false h3]; exact decide_eq_false (fun hc => hc.2.2.2.2.elim h3 h)
        (refine fin_x rfl ?_ ?_ <;> simp [pack, lo, loL, V.closed, closedL, mv_closed, e])
      · (refine fin_x rfl ?_ ?_ <;> simp [pack, lo, loL, V.closed, closedL, mv_closed, hS.trans (decide_eq_true ⟨by omega, by omega, by omega, by omega, .inr h⟩)])
    · simp (maxSteps := 1000000) (disch := omega) only [rg, opX, opI, look, nth, setN, outO, binO, intO, strO, argsE, appd, cpyO, slcO, slsO, bndO, lo1, mnxO, bldO, bldV, splice, rd, fpS, lk, isNil, Nat.reduceBEq, Nat.reduceEqDiff, Nat.reduceAdd, Int.reduceEq, Int.reduceLT, Int.reduceLE, Int.reduceToNat, reduceIte, reduceCtorEq, Nat.reduceLeDiff, Nat.reduceLT, Nat.reduceMul, Nat.reduceSub, c1, c2, c3, c4, c5, c6, d2, show ¬ (16 : Int) < s.result.length by omega, d4, d5]
      (refine fin_x rfl ?_ ?_ <;> simp [pack, lo, loL, V.closed, closedL, mv_closed, hS.trans (decide_eq_false (by omega))])

theorem ref18_number (n k : Int) (hn : n ≤ 9223372036854775807) : PCall Try.prog 70 [.int .i64 n, .int .i64 k] (.str (putS n k).1) := by
  refine en70 (by simp) (by simp [closedL, V.closed]) ?_
  simp (maxSteps := 1000000) (disch := omega) only [rg, opX, opI, look, nth, setN, outO, binO, intO, strO, argsE, appd, cpyO, slcO, slsO, bndO, lo1, mnxO, bldO, bldV, splice, rd, fpS, lk, isNil, Nat.reduceBEq, Nat.reduceEqDiff, Nat.reduceAdd, Int.reduceEq, Int.reduceLT, Int.reduceLE, Int.reduceToNat, reduceIte, reduceCtorEq, Nat.reduceLeDiff, Nat.reduceLT, Nat.reduceMul, Nat.reduceSub, c70]
  refine ⟨_, ref_put n k hn, ?_⟩
  simp (maxSteps := 1000000) (disch := omega) only [rg, opX, opI, look, nth, setN, outO, binO, intO, strO, argsE, appd, cpyO, slcO, slsO, bndO, lo1, mnxO, bldO, bldV, splice, rd, fpS, lk, isNil, Nat.reduceBEq, Nat.reduceEqDiff, Nat.reduceAdd, Int.reduceEq, Int.reduceLT, Int.reduceLE, Int.reduceToNat, reduceIte, reduceCtorEq, Nat.reduceLeDiff, Nat.reduceLT, Nat.reduceMul, Nat.reduceSub, sV]
  (refine fin_x rfl ?_ ?_ <;> simp [pack, lo, loL, V.closed, closedL, mv_closed])
theorem ref23_number (n k : Int) (hn : n ≤ 9223372036854775807) : PCall Try.prog 32 [.int .i64 n, .int .i64 k] (.str (putS n k).1) := by
  refine en32 (by simp) (by simp [closedL, V.closed]) ?_
  simp (maxSteps := 1000000) (disch := omega) only [rg, opX, opI, look, nth, setN, outO, binO, intO, strO, argsE, appd, cpyO, slcO, slsO, bndO, lo1, mnxO, bldO, bldV, splice, rd, fpS, lk, isNil, Nat.reduceBEq, Nat.reduceEqDiff, Nat.reduceAdd, Int.reduceEq, Int.reduceLT, Int.reduceLE, Int.reduceToNat, reduceIte, reduceCtorEq, Nat.reduceLeDiff, Nat.reduceLT, Nat.reduceMul, Nat.reduceSub, c32]
  refine ⟨_, ref_put n k hn, ?_⟩
  simp (maxSteps := 1000000) (disch := omega) only [rg, opX, opI, look, nth, setN, outO, binO, intO, strO, argsE, appd, cpyO, slcO, slsO, bndO, lo1, mnxO, bldO, bldV, splice, rd, fpS, lk, isNil, Nat.reduceBEq, Nat.reduceEqDiff, Nat.reduceAdd, Int.reduceEq, Int.reduceLT, Int.reduceLE, Int.reduceToNat, reduceIte, reduceCtorEq, Nat.reduceLeDiff, Nat.reduceLT, Nat.reduceMul, Nat.reduceSub, sV]
  (refine fin_x rfl ?_ ?_ <;> simp [pack, lo, loL, V.closed, closedL, mv_closed])
theorem ref23_text (s : Str) (hs : s.length ≤ 1000000000) : PCall Try.prog 31 [.str s] (.str (textS s).1) := by
  refine en31 (by simp) (by simp [closedL, V.closed]) ?_
  simp (maxSteps := 1000000) (disch := omega) only [rg, opX, opI, look, nth, setN, outO, binO, intO, strO, argsE, appd, cpyO, slcO, slsO, bndO, lo1, mnxO, bldO, bldV, splice, rd, fpS, lk, isNil, Nat.reduceBEq, Nat.reduceEqDiff, Nat.reduceAdd, Int.reduceEq, Int.reduceLT, Int.reduceLE, Int.reduceToNat, reduceIte, reduceCtorEq, Nat.reduceLeDiff, Nat.reduceLT, Nat.reduceMul, Nat.reduceSub, c31]
  refine ⟨_, ref_text s hs, ?_⟩
  simp (maxSteps := 1000000) (disch := omega) only [rg, opX, opI, look, nth, setN, outO, binO, intO, strO, argsE, appd, cpyO, slcO, slsO, bndO, lo1, mnxO, bldO, bldV, splice, rd, fpS, lk, isNil, Nat.reduceBEq, Nat.reduceEqDiff, Nat.reduceAdd, Int.reduceEq, Int.reduceLT, Int.reduceLE, Int.reduceToNat, reduceIte, reduceCtorEq, Nat.reduceLeDiff, Nat.reduceLT, Nat.reduceMul, Nat.reduceSub, sV]
  (refine fin_x rfl ?_ ?_ <;> simp [pack, lo, loL, V.closed, closedL, mv_closed])
theorem ref23_six (n : Int) : PCall Try.prog 27 [.int .i64 n] (.bool (decide (0 ≤ n ∧ n < 281474976710656))) := by
  refine en27 (by simp) (by simp [closedL, V.closed]) ?_
  by_cases c : 0 ≤ n
  · simp (maxSteps := 1000000) (disch := omega) only [rg, opX, opI, look, nth, setN, outO, binO, intO, strO, argsE, appd, cpyO, slcO, slsO, bndO, lo1, mnxO, bldO, bldV, splice, rd, fpS, lk, isNil, Nat.reduceBEq, Nat.reduceEqDiff, Nat.reduceAdd, Int.reduceEq, Int.reduceLT, Int.reduceLE, Int.reduceToNat, reduceIte, reduceCtorEq, Nat.reduceLeDiff, Nat.reduceLT, Nat.reduceMul, Nat.reduceSub, c27, c]
    (refine fin_x rfl ?_ ?_ <;> simp [pack, lo, loL, V.closed, closedL, mv_closed, c])
  · simp (maxSteps := 1000000) (disch := omega) only [rg, opX, opI, look, nth, setN, outO, binO, intO, strO, argsE, appd, cpyO, slcO, slsO, bndO, lo1, mnxO, bldO, bldV, splice, rd, fpS, lk, isNil, Nat.reduceBEq, Nat.reduceEqDiff, Nat.reduceAdd, Int.reduceEq, Int.reduceLT, Int.reduceLE, Int.reduceToNat, reduceIte, reduceCtorEq, Nat.reduceLeDiff, Nat.reduceLT, Nat.reduceMul, Nat.reduceSub, c27, c]
    (refine fin_x rfl ?_ ?_ <;> simp [pack, lo, loL, V.closed, closedL, mv_closed, c])

/-- A state as bytes. -/
def stBytes (s : Stt) : Str := (((putS s.is 1).1 ++ (putS s.tried 1).1) ++ (putS s.due 6).1 ++ (putS s.token 6).1) ++ (textS s.result).1
def i64S (s : Stt) : Prop := s.is ≤ 9223372036854775807 ∧ s.tried ≤ 9223372036854775807 ∧ s.due ≤ 9223372036854775807 ∧ s.token ≤ 9223372036854775807
theorem ref_stput (s : Stt) (hs : s.result.length ≤ 1000000000) (hi : i64S s) : PCall Try.prog 44 [sttV s] (.str (stBytes s)) := by
  refine en44 (by simp) (by simp [closedL, V.closed, sttV_closed]) ?_
  obtain ⟨i1, i2, i3, i4⟩ := hi
  have p1 := putS_len s.is 1
  have p2 := putS_len s.tried 1
  have p3 := putS_len s.due 6
  have p4 := putS_len s.token 6
  have p5 := textS_len s.result
  simp (maxSteps := 1000000) (disch := omega) only [rg, opX, opI, look, nth, setN, outO, binO, intO, strO, argsE, appd, cpyO, slcO, slsO, bndO, lo1, mnxO, bldO, bldV, splice, rd, fpS, lk, isNil, Nat.reduceBEq, Nat.reduceEqDiff, Nat.reduceAdd, Int.reduceEq, Int.reduceLT, Int.reduceLE, Int.reduceToNat, reduceIte, reduceCtorEq, Nat.reduceLeDiff, Nat.reduceLT, Nat.reduceMul, Nat.reduceSub, c44, sttV]
  refine ⟨_, ref_text s.result hs, ?_⟩
  simp (maxSteps := 1000000) (disch := omega) only [rg, opX, opI, look, nth, setN, outO, binO, intO, strO, argsE, appd, cpyO, slcO, slsO, bndO, lo1, mnxO, bldO, bldV, splice, rd, fpS, lk, isNil, Nat.reduceBEq, Nat.reduceEqDiff, Nat.reduceAdd, Int.reduceEq, Int.reduceLT, Int.reduceLE, Int.reduceToNat, reduceIte, reduceCtorEq, Nat.reduceLeDiff, Nat.reduceLT, Nat.reduceMul, Nat.reduceSub, sV]
  refine ⟨_, ref18_number s.is 1 i1, ?_⟩
  simp (maxSteps := 1000000) (disch := omega) only [rg, opX, opI, look, nth, setN, outO, binO, intO, strO, argsE, appd, cpyO, slcO, slsO, bndO, lo1, mnxO, bldO, bldV, splice, rd, fpS, lk, isNil, Nat.reduceBEq, Nat.reduceEqDiff, Nat.reduceAdd, Int.reduceEq, Int.reduceLT, Int.reduceLE, Int.reduceToNat, reduceIte, reduceCtorEq, Nat.reduceLeDiff, Nat.reduceLT, Nat.reduceMul, Nat.reduceSub]
  refine ⟨_, ref18_number s.tried 1 i2, ?_⟩
  simp (maxSteps := 1000000) (disch := omega) only [rg, opX, opI, look, nth, setN, outO, binO, intO, strO, argsE, appd, cpyO, slcO, slsO, bndO, lo1, mnxO, bldO, bldV, splice, rd, fpS, lk, isNil, Nat.reduceBEq, Nat.reduceEqDiff, Nat.reduceAdd, Int.reduceEq, Int.reduceLT, Int.reduceLE, Int.reduceToNat, reduceIte, reduceCtorEq, Nat.reduceLeDiff, Nat.reduceLT, Nat.reduceMul, Nat.reduceSub]
  refine ⟨by omega, _, ref18_number s.due 6 i3, ?_⟩
  simp (maxSteps := 1000000) (disch := omega) only [rg, opX, opI, look, nth, setN, outO, binO, intO, strO, argsE, appd, cpyO, slcO, slsO, bndO, lo1, mnxO, bldO, bldV, splice, rd, fpS, lk, isNil, Nat.reduceBEq, Nat.reduceEqDiff, Nat.reduceAdd, Int.reduceEq, Int.reduceLT, Int.reduceLE, Int.reduceToNat, reduceIte, reduceCtorEq, Nat.reduceLeDiff, Nat.reduceLT, Nat.reduceMul, Nat.reduceSub, List.length_append]
  refine ⟨by omega, _, ref18_number s.token 6 i4, ?_⟩
  simp (maxSteps := 1000000) (disch := omega) only [rg, opX, opI, look, nth, setN, outO, binO, intO, strO, argsE, appd, cpyO, slcO, slsO, bndO, lo1, mnxO, bldO, bldV, splice, rd, fpS, lk, isNil, Nat.reduceBEq, Nat.reduceEqDiff, Nat.reduceAdd, Int.reduceEq, Int.reduceLT, Int.reduceLE, Int.reduceToNat, reduceIte, reduceCtorEq, Nat.reduceLeDiff, Nat.reduceLT, Nat.reduceMul, Nat.reduceSub, List.length_append]
  refine ⟨by omega, by omega, ?_⟩
  (refine fin_x rfl ?_ ?_ <;> simp [pack, lo, loL, V.closed, closedL, mv_closed, stBytes])
theorem putS_in {n k : Int} (h : 1 ≤ k ∧ k ≤ 6 ∧ 0 ≤ n ∧ n < 256 ^ k.toNat) : putS n k = (beS k.toNat n.toNat, 0) := by
  unfold putS; rw [if_neg (by omega)]
theorem textS_in {s : Str} (h : s.length ≤ 65535) : textS s = (beS 2 s.length ++ s, 0) := by
  unfold textS; rw [if_neg (by omega)]
def stPutS (s : Stt) : Str × Int := if standsS s = true then (stBytes s, 0) else ([], 1)
theorem task_put (s : Stt) (hs : s.result.length ≤ 4611686018427387904) (hi : i64S s) : PCall Try.prog 42 [sttV s] (sV (stPutS s)) := by
  refine en42 (by simp) (by simp [closedL, V.closed, sttV_closed]) ?_
  have kst := task_stands s hs
  obtain ⟨i1, i2, i3, i4⟩ := hi
  have p1 := putS_len s.is 1
  have p2 := putS_len s.tried 1
  have p3 := putS_len s.due 6
  have p4 := putS_len s.token 6
  have p5 := textS_len s.result
  unfold sttV at kst
  simp (maxSteps := 1000000) (disch := omega) only [rg, opX, opI, look, nth, setN, outO, binO, intO, strO, argsE, appd, cpyO, slcO, slsO, bndO, lo1, mnxO, bldO, bldV, splice, rd, fpS, lk, isNil, Nat.reduceBEq, Nat.reduceEqDiff, Nat.reduceAdd, Int.reduceEq, Int.reduceLT, Int.reduceLE, Int.reduceToNat, reduceIte, reduceCtorEq, Nat.reduceLeDiff, Nat.reduceLT, Nat.reduceMul, Nat.reduceSub, c42, sttV]
  refine ⟨_, kst, ?_⟩
  cases hst : standsS s with
  | false =>
    simp (maxSteps := 1000000) (disch := omega) only [rg, opX, opI, look, nth, setN, outO, binO, intO, strO, argsE, appd, cpyO, slcO, slsO, bndO, lo1, mnxO, bldO, bldV, splice, rd, fpS, lk, isNil, Nat.reduceBEq, Nat.reduceEqDiff, Nat.reduceAdd, Int.reduceEq, Int.reduceLT, Int.reduceLE, Int.reduceToNat, reduceIte, reduceCtorEq, Nat.reduceLeDiff, Nat.reduceLT, Nat.reduceMul, Nat.reduceSub]
    (refine fin_x rfl ?_ ?_ <;> simp [pack, lo, loL, V.closed, closedL, mv_closed, sV, stPutS, hst])
  | true =>
    have hlen : s.result.length ≤ 65535 := by simp only [standsS, Bool.and_eq_true, decide_eq_true_eq] at hst; omega
    simp (maxSteps := 1000000) (disch := omega) only [rg, opX, opI, look, nth, setN, outO, binO, intO, strO, argsE, appd, cpyO, slcO, slsO, bndO, lo1, mnxO, bldO, bldV, splice, rd, fpS, lk, isNil, Nat.reduceBEq, Nat.reduceEqDiff, Nat.reduceAdd, Int.reduceEq, Int.reduceLT, Int.reduceLE, Int.reduceToNat, reduceIte, reduceCtorEq, Nat.reduceLeDiff, Nat.reduceLT, Nat.reduceMul, Nat.reduceSub]
    refine ⟨_, code_put s.is 1 i1, ?_⟩
    simp (maxSteps := 1000000) (disch := omega) only [rg, opX, opI, look, nth, setN, outO, binO, intO, strO, argsE, appd, cpyO, slcO, slsO, bndO, lo1, mnxO, bldO, bldV, splice, rd, fpS, lk, isNil, Nat.reduceBEq, Nat.reduceEqDiff, Nat.reduceAdd, Int.reduceEq, Int.reduceLT, Int.reduceLE, Int.reduceToNat, reduceIte, reduceCtorEq, Nat.reduceLeDiff, Nat.reduceLT, Nat.reduceMul, Nat.reduceSub, sV]
    refine ⟨_, code_put s.tried 1 i2, ?_⟩
    simp (maxSteps := 1000000) (disch := omega) only [rg, opX, opI, look, nth, setN, outO, binO, intO, strO, argsE, appd, cpyO, slcO, slsO, bndO, lo1, mnxO, bldO, bldV, splice, rd, fpS, lk, isNil, Nat.reduceBEq, Nat.reduceEqDiff, Nat.reduceAdd, Int.reduceEq, Int.reduceLT, Int.reduceLE, Int.reduceToNat, reduceIte, reduceCtorEq, Nat.reduceLeDiff, Nat.reduceLT, Nat.reduceMul, Nat.reduceSub, sV]
    refine ⟨_, code_put s.due 6 i3, ?_⟩
    simp (maxSteps := 1000000) (disch := omega) only [rg, opX, opI, look, nth, setN, outO, binO, intO, strO, argsE, appd, cpyO, slcO, slsO, bndO, lo1, mnxO, bldO, bldV, splice, rd, fpS, lk, isNil, Nat.reduceBEq, Nat.reduceEqDiff, Nat.reduceAdd, Int.reduceEq, Int.reduceLT, Int.reduceLE, Int.reduceToNat, reduceIte, reduceCtorEq, Nat.reduceLeDiff, Nat.reduceLT, Nat.reduceMul, Nat.reduceSub, sV]
    refine ⟨_, code_put s.token 6 i4, ?_⟩
    simp (maxSteps := 1000000) (disch := omega) only [rg, opX, opI, look, nth, setN, outO, binO, intO, strO, argsE, appd, cpyO, slcO, slsO, bndO, lo1, mnxO, bldO, bldV, splice, rd, fpS, lk, isNil, Nat.reduceBEq, Nat.reduceEqDiff, Nat.reduceAdd, Int.reduceEq, Int.reduceLT, Int.reduceLE, Int.reduceToNat, reduceIte, reduceCtorEq, Nat.reduceLeDiff, Nat.reduceLT, Nat.reduceMul, Nat.reduceSub, sV]
    refine ⟨_, code_text s.result (by omega), ?_⟩
    simp (maxSteps := 1000000) (disch := omega) only [rg, opX, opI, look, nth, setN, outO, binO, intO, strO, argsE, appd, cpyO, slcO, slsO, bndO, lo1, mnxO, bldO, bldV, splice, rd, fpS, lk, isNil, Nat.reduceBEq, Nat.reduceEqDiff, Nat.reduceAdd, Int.reduceEq, Int.reduceLT, Int.reduceLE, Int.reduceToNat, reduceIte, reduceCtorEq, Nat.reduceLeDiff, Nat.reduceLT, Nat.reduceMul, Nat.reduceSub, sV]
    refine ⟨_, code_all .full [(putS s.is 1).1, (putS s.tried 1).1, (putS s.due 6).1, (putS s.token 6).1, (textS s.result).1] (by simp) (by simp; omega), ?_⟩
    simp (maxSteps := 1000000) (disch := omega) only [rg, opX, opI, look, nth, setN, outO, binO, intO, strO, argsE, appd, cpyO, slcO, slsO, bndO, lo1, mnxO, bldO, bldV, splice, rd, fpS, lk, isNil, Nat.reduceBEq, Nat.reduceEqDiff, Nat.reduceAdd, Int.reduceEq, Int.reduceLT, Int.reduceLE, Int.reduceToNat, reduceIte, reduceCtorEq, Nat.reduceLeDiff, Nat.reduceLT, Nat.reduceMul, Nat.reduceSub]
    have e : [(putS s.is 1).1, (putS s.tried 1).1, (putS s.due 6).1, (putS s.token 6).1, (textS s.result).1].flatten = stBytes s := by simp [stBytes]
    have e2 : (textS s.result).2 = 0 := by rw [textS_in hlen]
    (refine fin_x rfl ?_ ?_ <;> simp [pack, lo, loL, V.closed, closedL, mv_closed, sV, stPutS, hst, e, e2])

def zeroSt : Stt := ⟨0, 0, 0, 0, []⟩
def stRead (s : Str) : Stt × Int × Int :=
  let a := nextS s (0, 0) 1
  let b := nextS s a.2 1
  let c := nextS s b.2 6
  let d := nextS s c.2 6
  let e := txtS s d.2
  (⟨a.1, b.1, c.1, d.1, e.1⟩, e.2)
def stGetS (s : Str) : Stt × Int := if (stRead s).2.2 = 0 then if (stRead s).2.1 = s.length ∧ standsS (stRead s).1 = true then ((stRead s).1, 0) else (zeroSt, 4) else (zeroSt, (stRead s).2.2)
def stV (p : Stt × Int) : V := .tup [sttV p.1, .int .i64 p.2]

theorem ref_stget (s : Str) (hs : s.length ≤ 1000000000) : PCall Try.prog 48 [.str s] (stV (stGetS s)) := by
  refine en48 (by simp) (by simp [closedL, V.closed]) ?_
  simp (maxSteps := 1000000) (disch := omega) only [rg, opX, opI, look, nth, setN, outO, binO, intO, strO, argsE, appd, cpyO, slcO, slsO, bndO, lo1, mnxO, bldO, bldV, splice, rd, fpS, lk, isNil, Nat.reduceBEq, Nat.reduceEqDiff, Nat.reduceAdd, Int.reduceEq, Int.reduceLT, Int.reduceLE, Int.reduceToNat, reduceIte, reduceCtorEq, Nat.reduceLeDiff, Nat.reduceLT, Nat.reduceMul, Nat.reduceSub, c48]
  refine ⟨_, _, _, _, r_next _ 1 s (0, 0) 1 hs (by simp) (by simp (disch := omega) only [upd_eq, upd_ne, wo_0, wo_1, wo_2, rdV]), ?_⟩
  simp (maxSteps := 1000000) (disch := omega) only [rg, opX, opI, look, nth, setN, outO, binO, intO, strO, argsE, appd, cpyO, slcO, slsO, bndO, lo1, mnxO, bldO, bldV, splice, rd, fpS, lk, isNil, Nat.reduceBEq, Nat.reduceEqDiff, Nat.reduceAdd, Int.reduceEq, Int.reduceLT, Int.reduceLE, Int.reduceToNat, reduceIte, reduceCtorEq, Nat.reduceLeDiff, Nat.reduceLT, Nat.reduceMul, Nat.reduceSub]
  generalize ha : nextS s (0, 0) 1 = a
  refine ⟨_, _, _, _, r_next _ 1 s a.2 1 hs (by simp) (by simp (disch := omega) only [upd_eq, upd_ne, wo_0, wo_1, wo_2]), ?_⟩
  simp (maxSteps := 1000000) (disch := omega) only [rg, opX, opI, look, nth, setN, outO, binO, intO, strO, argsE, appd, cpyO, slcO, slsO, bndO, lo1, mnxO, bldO, bldV, splice, rd, fpS, lk, isNil, Nat.reduceBEq, Nat.reduceEqDiff, Nat.reduceAdd, Int.reduceEq, Int.reduceLT, Int.reduceLE, Int.reduceToNat, reduceIte, reduceCtorEq, Nat.reduceLeDiff, Nat.reduceLT, Nat.reduceMul, Nat.reduceSub]
  generalize hb : nextS s a.2 1 = b
  refine ⟨_, _, _, _, r_next _ 1 s b.2 6 hs (by simp) (by simp (disch := omega) only [upd_eq, upd_ne, wo_0, wo_1, wo_2]), ?_⟩
  simp (maxSteps := 1000000) (disch := omega) only [rg, opX, opI, look, nth, setN, outO, binO, intO, strO, argsE, appd, cpyO, slcO, slsO, bndO, lo1, mnxO, bldO, bldV, splice, rd, fpS, lk, isNil, Nat.reduceBEq, Nat.reduceEqDiff, Nat.reduceAdd, Int.reduceEq, Int.reduceLT, Int.reduceLE, Int.reduceToNat, reduceIte, reduceCtorEq, Nat.reduceLeDiff, Nat.reduceLT, Nat.reduceMul, Nat.reduceSub]
  generalize hc : nextS s b.2 6 = c
  refine ⟨_, _, _, _, r_next _ 1 s c.2 6 hs (by simp) (by simp (disch := omega) only [upd_eq, upd_ne, wo_0, wo_1, wo_2]), ?_⟩
  simp (maxSteps := 1000000) (disch := omega) only [rg, opX, opI, look, nth, setN, outO, binO, intO, strO, argsE, appd, cpyO, slcO, slsO, bndO, lo1, mnxO, bldO, bldV, splice, rd, fpS, lk, isNil, Nat.reduceBEq, Nat.reduceEqDiff, Nat.reduceAdd, Int.reduceEq, Int.reduceLT, Int.reduceLE, Int.reduceToNat, reduceIte, reduceCtorEq, Nat.reduceLeDiff, Nat.reduceLT, Nat.reduceMul, Nat.reduceSub]
  generalize hd : nextS s c.2 6 = d
  refine ⟨_, _, _, _, r_text _ 1 s d.2 hs (by simp) (by simp (disch := omega) only [upd_eq, upd_ne, wo_0, wo_1, wo_2]), ?_⟩
  simp (maxSteps := 1000000) (disch := omega) only [rg, opX, opI, look, nth, setN, outO, binO, intO, strO, argsE, appd, cpyO, slcO, slsO, bndO, lo1, mnxO, bldO, bldV, splice, rd, fpS, lk, isNil, Nat.reduceBEq, Nat.reduceEqDiff, Nat.reduceAdd, Int.reduceEq, Int.reduceLT, Int.reduceLE, Int.reduceToNat, reduceIte, reduceCtorEq, Nat.reduceLeDiff, Nat.reduceLT, Nat.reduceMul, Nat.reduceSub]
  generalize he : txtS s d.2 = e
  have hr : stRead s = (⟨a.1, b.1, c.1, d.1, e.1⟩, e.2) := by simp only [stRead, ha, hb, hc, hd, he]
  have hel : e.1.length ≤ 1000000000 := by
    rw [← he]; unfold txtS; split
    · exact Nat.le_trans (cutS_len _ _) hs
    · simp
  have kst := ref_stands ⟨a.1, b.1, c.1, d.1, e.1⟩ (Nat.le_trans hel (by omega))
  unfold sttV at kst
  by_cases c1 : e.2.2 = 0
  · simp (maxSteps := 1000000) (disch := omega) only [rg, opX, opI, look, nth, setN, outO, binO, intO, strO, argsE, appd, cpyO, slcO, slsO, bndO, lo1, mnxO, bldO, bldV, splice, rd, fpS, lk, isNil, Nat.reduceBEq, Nat.reduceEqDiff, Nat.reduceAdd, Int.reduceEq, Int.reduceLT, Int.reduceLE, Int.reduceToNat, reduceIte, reduceCtorEq, Nat.reduceLeDiff, Nat.reduceLT, Nat.reduceMul, Nat.reduceSub, rdV, c1]
    by_cases c2 : e.2.1 = s.length
    · simp (maxSteps := 1000000) (disch := omega) only [rg, opX, opI, look, nth, setN, outO, binO, intO, strO, argsE, appd, cpyO, slcO, slsO, bndO, lo1, mnxO, bldO, bldV, splice, rd, fpS, lk, isNil, Nat.reduceBEq, Nat.reduceEqDiff, Nat.reduceAdd, Int.reduceEq, Int.reduceLT, Int.reduceLE, Int.reduceToNat, reduceIte, reduceCtorEq, Nat.reduceLeDiff, Nat.reduceLT, Nat.reduceMul, Nat.reduceSub, rdV, c2]
      refine ⟨_, kst, ?_⟩
      cases hst : standsS ⟨a.1, b.1, c.1, d.1, e.1⟩ with
      | true =>
        simp (maxSteps := 1000000) (disch := omega) only [rg, opX, opI, look, nth, setN, outO, binO, intO, strO, argsE, appd, cpyO, slcO, slsO, bndO, lo1, mnxO, bldO, bldV, splice, rd, fpS, lk, isNil, Nat.reduceBEq, Nat.reduceEqDiff, Nat.reduceAdd, Int.reduceEq, Int.reduceLT, Int.reduceLE, Int.reduceToNat, reduceIte, reduceCtorEq, Nat.reduceLeDiff, Nat.reduceLT, Nat.reduceMul, Nat.reduceSub]
        (refine fin_x rfl ?_ ?_ <;> simp [pack, lo, loL, V.closed, closedL, mv_closed, stV, stGetS, hr, c1, c2, hst, sttV])
      | false =>
        simp (maxSteps := 1000000) (disch := omega) only [rg, opX, opI, look, nth, setN, outO, binO, intO, strO, argsE, appd, cpyO, slcO, slsO, bndO, lo1, mnxO, bldO, bldV, splice, rd, fpS, lk, isNil, Nat.reduceBEq, Nat.reduceEqDiff, Nat.reduceAdd, Int.reduceEq, Int.reduceLT, Int.reduceLE, Int.reduceToNat, reduceIte, reduceCtorEq, Nat.reduceLeDiff, Nat.reduceLT, Nat.reduceMul, Nat.reduceSub]
        (refine fin_x rfl ?_ ?_ <;> simp [pack, lo, loL, V.closed, closedL, mv_closed, stV, stGetS, hr, c1, c2, hst, sttV, zeroSt])
    · simp (maxSteps := 1000000) (disch := omega) only [rg, opX, opI, look, nth, setN, outO, binO, intO, strO, argsE, appd, cpyO, slcO, slsO, bndO, lo1, mnxO, bldO, bldV, splice, rd, fpS, lk, isNil, Nat.reduceBEq, Nat.reduceEqDiff, Nat.reduceAdd, Int.reduceEq, Int.reduceLT, Int.reduceLE, Int.reduceToNat, reduceIte, reduceCtorEq, Nat.reduceLeDiff, Nat.reduceLT, Nat.reduceMul, Nat.reduceSub, rdV, c2]
      (refine fin_x rfl ?_ ?_ <;> simp [pack, lo, loL, V.closed, closedL, mv_closed, stV, stGetS, hr, c1, c2, sttV, zeroSt])
  · simp (maxSteps := 1000000) (disch := omega) only [rg, opX, opI, look, nth, setN, outO, binO, intO, strO, argsE, appd, cpyO, slcO, slsO, bndO, lo1, mnxO, bldO, bldV, splice, rd, fpS, lk, isNil, Nat.reduceBEq, Nat.reduceEqDiff, Nat.reduceAdd, Int.reduceEq, Int.reduceLT, Int.reduceLE, Int.reduceToNat, reduceIte, reduceCtorEq, Nat.reduceLeDiff, Nat.reduceLT, Nat.reduceMul, Nat.reduceSub, rdV, c1]
    refine ⟨by simp [compat, disj, nthL], ?_⟩
    (refine fin_x rfl ?_ ?_ <;> simp [pack, lo, loL, V.closed, closedL, mv_closed, stV, stGetS, hr, c1, sttV, zeroSt])

end Go.Proofs.Ytjlpmndipceboaa.Ev
end
section
set_option linter.unusedSimpArgs false
set_option linter.unusedVariables false
set_option maxRecDepth 10000
namespace Go.Proofs.Ytjlpmndipceboaa.Ev
open Go

def setSt : Nat → Stt → Int → Stt
  | 0, s, n => { s with is := n }
  | 1, s, n => { s with tried := n }
  | 2, s, n => { s with due := n }
  | _, s, n => { s with token := n }
def szSt : Nat → Int
  | 0 => 1
  | 1 => 1
  | _ => 6
def rdSt (s : Str) : Nat → Stt × Int × Int
  | 0 => (zeroSt, (0, 0))
  | k + 1 => (setSt k (rdSt s k).1 (nextS s (rdSt s k).2 (szSt k)).1, (nextS s (rdSt s k).2 (szSt k)).2)
theorem stRead_eq (s : Str) : stRead s = ({ (rdSt s 4).1 with result := (txtS s (rdSt s 4).2).1 }, (txtS s (rdSt s 4).2).2) := rfl
theorem rdSt_bad (s : Str) (i : Nat) (h : (rdSt s i).2.2 ≠ 0) (hi : i ≤ 4) : stGetS s = (zeroSt, (rdSt s i).2.2) := by
  have st : ∀ r : Int × Int, r.2 ≠ 0 → ∀ k, (nextS s r k).2 = r := fun r hr k => by simp [nextS, hr]
  have tt : ∀ r : Int × Int, r.2 ≠ 0 → (txtS s r).2 = r := fun r hr => by simp [txtS, hr]
  have up : ∀ j, (rdSt s j).2.2 ≠ 0 → (rdSt s (j + 1)).2 = (rdSt s j).2 := fun j hb => st _ hb _
  have all : (rdSt s 4).2 = (rdSt s i).2 := by
    rcases (by omega : i = 0 ∨ i = 1 ∨ i = 2 ∨ i = 3 ∨ i = 4) with rfl | rfl | rfl | rfl | rfl
    · exact absurd (show (rdSt s 0).2.2 = 0 from rfl) h
    · have e1 := up 1 h
      have e2 := up 2 (by rw [e1]; exact h)
      have e3 := up 3 (by rw [e2, e1]; exact h)
      rw [e3, e2, e1]
    · have e2 := up 2 h
      have e3 := up 3 (by rw [e2]; exact h)
      rw [e3, e2]
    · exact up 3 h
    · rfl
  have e : (stRead s).2 = (rdSt s i).2 := by rw [stRead_eq]; simp only; rw [tt _ (by rw [all]; exact h), all]
  unfold stGetS
  rw [e, if_neg h]

theorem task_get (s : Str) (hs : s.length ≤ 1000000000) : PCall Try.prog 45 [.str s] (stV (stGetS s)) := by
  refine en45 (by simp) (by simp [closedL, V.closed]) ?_
  simp (maxSteps := 1000000) (disch := omega) only [rg, opX, opI, look, nth, setN, outO, binO, intO, strO, argsE, appd, cpyO, slcO, slsO, bndO, lo1, mnxO, bldO, bldV, splice, rd, fpS, lk, isNil, Nat.reduceBEq, Nat.reduceEqDiff, Nat.reduceAdd, Int.reduceEq, Int.reduceLT, Int.reduceLE, Int.reduceToNat, reduceIte, reduceCtorEq, Nat.reduceLeDiff, Nat.reduceLT, Nat.reduceMul, Nat.reduceSub, c45]
  refine x_it 4 (fun i σ H => 2 ≤ H.n ∧ (rdSt s i).2.2 = 0 ∧ H.m 0 = some (.arr 5 [sttV zeroSt]) ∧ H.m 1 = some (.arr 5 [sttV (rdSt s i).1]) ∧ σ = [(0, .str s), (2, .ptr 0 0 0), (4, .ptr 1 0 0), (5, .int .i64 (rdSt s i).2.1),
    (17, .fsl .full 2 [.agg [.ptr 1 0 0, .int .i64 1], .agg [.ptr 1 0 1, .int .i64 1], .agg [.ptr 1 0 2, .int .i64 6], .agg [.ptr 1 0 3, .int .i64 6]]), (18, .int .i64 4), (19, .int .i64 i)]) ⟨Nat.le_refl 2, rfl, (by simp (disch := omega) only [upd_eq, upd_ne, wo_0, wo_1, wo_2, sttV, zeroSt]), (by simp only [rdSt]; exact (by simp (disch := omega) only [upd_eq, upd_ne, wo_0, wo_1, wo_2, sttV, zeroSt])), rfl⟩ ?_
  rintro T i σ ⟨q, m⟩ hi ⟨hq, hz, e0, e1, rfl⟩ hN hX hR
  simp only at hq e0 e1
  have step : ∀ k : Int, nextS s (rdSt s i).2 k = getS s (rdSt s i).2.1 k := fun k => by simp [nextS, hz]
  have hq0 : 0 ≠ q := by omega
  have hq1 : 1 ≠ q := by omega
  simp (maxSteps := 1000000) (disch := omega) only [rg, opX, opI, look, nth, setN, outO, binO, intO, strO, argsE, appd, cpyO, slcO, slsO, bndO, lo1, mnxO, bldO, bldV, splice, rd, fpS, lk, isNil, Nat.reduceBEq, Nat.reduceEqDiff, Nat.reduceAdd, Int.reduceEq, Int.reduceLT, Int.reduceLE, Int.reduceToNat, reduceIte, reduceCtorEq, Nat.reduceLeDiff, Nat.reduceLT, Nat.reduceMul, Nat.reduceSub]
  refine ⟨fun h => ?_, fun h => ?_⟩
  · have i1 : i < 4 := by omega
    rcases (by omega : i = 0 ∨ i = 1 ∨ i = 2 ∨ i = 3) with rfl | rfl | rfl | rfl
    · have hs1 : rdSt s (0 + 1) = (setSt 0 (rdSt s 0).1 (getS s (rdSt s 0).2.1 1).1, (getS s (rdSt s 0).2.1 1).2) := by show (setSt 0 (rdSt s 0).1 (nextS s (rdSt s 0).2 (szSt 0)).1, (nextS s (rdSt s 0).2 (szSt 0)).2) = _; rw [step]; rfl
      have hbad := rdSt_bad s (0 + 1)
      rw [hs1] at hbad
      simp only at hbad
      simp (maxSteps := 1000000) (disch := omega) only [rg, opX, opI, look, nth, setN, outO, binO, intO, strO, argsE, appd, cpyO, slcO, slsO, bndO, lo1, mnxO, bldO, bldV, splice, rd, fpS, lk, isNil, Nat.reduceBEq, Nat.reduceEqDiff, Nat.reduceAdd, Int.reduceEq, Int.reduceLT, Int.reduceLE, Int.reduceToNat, reduceIte, reduceCtorEq, Nat.reduceLeDiff, Nat.reduceLT, Nat.reduceMul, Nat.reduceSub]
      refine ⟨_, code_get s _ 1 hs, ?_⟩
      simp (maxSteps := 1000000) (disch := omega) only [rg, opX, opI, look, nth, setN, outO, binO, intO, strO, argsE, appd, cpyO, slcO, slsO, bndO, lo1, mnxO, bldO, bldV, splice, rd, fpS, lk, isNil, Nat.reduceBEq, Nat.reduceEqDiff, Nat.reduceAdd, Int.reduceEq, Int.reduceLT, Int.reduceLE, Int.reduceToNat, reduceIte, reduceCtorEq, Nat.reduceLeDiff, Nat.reduceLT, Nat.reduceMul, Nat.reduceSub, gV, e1, sttV]
      by_cases c : (getS s (rdSt s 0).2.1 1).2.2 = 0
      · simp (maxSteps := 1000000) (disch := omega) only [rg, opX, opI, look, nth, setN, outO, binO, intO, strO, argsE, appd, cpyO, slcO, slsO, bndO, lo1, mnxO, bldO, bldV, splice, rd, fpS, lk, isNil, Nat.reduceBEq, Nat.reduceEqDiff, Nat.reduceAdd, Int.reduceEq, Int.reduceLT, Int.reduceLE, Int.reduceToNat, reduceIte, reduceCtorEq, Nat.reduceLeDiff, Nat.reduceLT, Nat.reduceMul, Nat.reduceSub, gV, e1, sttV, c]
        refine hN _ _ i1 ?_
        rw [hs1]
        refine ⟨by show 2 ≤ q + 1; omega, c, (by simp (disch := omega) only [upd_eq, upd_ne, wo_0, wo_1, wo_2, e0]), (by simp (disch := omega) only [upd_eq, upd_ne, wo_0, wo_1, wo_2, sttV, setSt]), rfl⟩
      · simp (maxSteps := 1000000) (disch := omega) only [rg, opX, opI, look, nth, setN, outO, binO, intO, strO, argsE, appd, cpyO, slcO, slsO, bndO, lo1, mnxO, bldO, bldV, splice, rd, fpS, lk, isNil, Nat.reduceBEq, Nat.reduceEqDiff, Nat.reduceAdd, Int.reduceEq, Int.reduceLT, Int.reduceLE, Int.reduceToNat, reduceIte, reduceCtorEq, Nat.reduceLeDiff, Nat.reduceLT, Nat.reduceMul, Nat.reduceSub, gV, e1, sttV, c, e0, zeroSt]
        refine hR _ _ ?_
        simp (maxSteps := 1000000) (disch := omega) only [rg, opX, opI, look, nth, setN, outO, binO, intO, strO, argsE, appd, cpyO, slcO, slsO, bndO, lo1, mnxO, bldO, bldV, splice, rd, fpS, lk, isNil, Nat.reduceBEq, Nat.reduceEqDiff, Nat.reduceAdd, Int.reduceEq, Int.reduceLT, Int.reduceLE, Int.reduceToNat, reduceIte, reduceCtorEq, Nat.reduceLeDiff, Nat.reduceLT, Nat.reduceMul, Nat.reduceSub]
        (refine fin_x rfl ?_ ?_ <;> simp [pack, lo, loL, V.closed, closedL, mv_closed, stV, hbad c, sttV, zeroSt])
    · have hs1 : rdSt s (1 + 1) = (setSt 1 (rdSt s 1).1 (getS s (rdSt s 1).2.1 1).1, (getS s (rdSt s 1).2.1 1).2) := by show (setSt 1 (rdSt s 1).1 (nextS s (rdSt s 1).2 (szSt 1)).1, (nextS s (rdSt s 1).2 (szSt 1)).2) = _; rw [step]; rfl
      have hbad := rdSt_bad s (1 + 1)
      rw [hs1] at hbad
      simp only at hbad
      simp (maxSteps := 1000000) (disch := omega) only [rg, opX, opI, look, nth, setN, outO, binO, intO, strO, argsE, appd, cpyO, slcO, slsO, bndO, lo1, mnxO, bldO, bldV, splice, rd, fpS, lk, isNil, Nat.reduceBEq, Nat.reduceEqDiff, Nat.reduceAdd, Int.reduceEq, Int.reduceLT, Int.reduceLE, Int.reduceToNat, reduceIte, reduceCtorEq, Nat.reduceLeDiff, Nat.reduceLT, Nat.reduceMul, Nat.reduceSub]
      refine ⟨_, code_get s _ 1 hs, ?_⟩
      simp (maxSteps := 1000000) (disch := omega) only [rg, opX, opI, look, nth, setN, outO, binO, intO, strO, argsE, appd, cpyO, slcO, slsO, bndO, lo1, mnxO, bldO, bldV, splice, rd, fpS, lk, isNil, Nat.reduceBEq, Nat.reduceEqDiff, Nat.reduceAdd, Int.reduceEq, Int.reduceLT, Int.reduceLE, Int.reduceToNat, reduceIte, reduceCtorEq, Nat.reduceLeDiff, Nat.reduceLT, Nat.reduceMul, Nat.reduceSub, gV, e1, sttV]
      by_cases c : (getS s (rdSt s 1).2.1 1).2.2 = 0
      · simp (maxSteps := 1000000) (disch := omega) only [rg, opX, opI, look, nth, setN, outO, binO, intO, strO, argsE, appd, cpyO, slcO, slsO, bndO, lo1, mnxO, bldO, bldV, splice, rd, fpS, lk, isNil, Nat.reduceBEq, Nat.reduceEqDiff, Nat.reduceAdd, Int.reduceEq, Int.reduceLT, Int.reduceLE, Int.reduceToNat, reduceIte, reduceCtorEq, Nat.reduceLeDiff, Nat.reduceLT, Nat.reduceMul, Nat.reduceSub, gV, e1, sttV, c]
        refine hN _ _ i1 ?_
        rw [hs1]
        refine ⟨by show 2 ≤ q + 1; omega, c, (by simp (disch := omega) only [upd_eq, upd_ne, wo_0, wo_1, wo_2, e0]), (by simp (disch := omega) only [upd_eq, upd_ne, wo_0, wo_1, wo_2, sttV, setSt]), rfl⟩
      · simp (maxSteps := 1000000) (disch := omega) only [rg, opX, opI, look, nth, setN, outO, binO, intO, strO, argsE, appd, cpyO, slcO, slsO, bndO, lo1, mnxO, bldO, bldV, splice, rd, fpS, lk, isNil, Nat.reduceBEq, Nat.reduceEqDiff, Nat.reduceAdd, Int.reduceEq, Int.reduceLT, Int.reduceLE, Int.reduceToNat, reduceIte, reduceCtorEq, Nat.reduceLeDiff, Nat.reduceLT, Nat.reduceMul, Nat.reduceSub, gV, e1, sttV, c, e0, zeroSt]
        refine hR _ _ ?_
        simp (maxSteps := 1000000) (disch := omega) only [rg, opX, opI, look, nth, setN, outO, binO, intO, strO, argsE, appd, cpyO, slcO, slsO, bndO, lo1, mnxO, bldO, bldV, splice, rd, fpS, lk, isNil, Nat.reduceBEq, Nat.reduceEqDiff, Nat.reduceAdd, Int.reduceEq, Int.reduceLT, Int.reduceLE, Int.reduceToNat, reduceIte, reduceCtorEq, Nat.reduceLeDiff, Nat.reduceLT, Nat.reduceMul, Nat.reduceSub]
        (refine fin_x rfl ?_ ?_ <;> simp [pack, lo, loL, V.closed, closedL, mv_closed, stV, hbad c, sttV, zeroSt])
    · have hs1 : rdSt s (2 + 1) = (setSt 2 (rdSt s 2).1 (getS s (rdSt s 2).2.1 6).1, (getS s (rdSt s 2).2.1 6).2) := by show (setSt 2 (rdSt s 2).1 (nextS s (rdSt s 2).2 (szSt 2)).1, (nextS s (rdSt s 2).2 (szSt 2)).2) = _; rw [step]; rfl
      have hbad := rdSt_bad s (2 + 1)
      rw [hs1] at hbad
      simp only at hbad
      simp (maxSteps := 1000000) (disch := omega) only [rg, opX, opI, look, nth, setN, outO, binO, intO, strO, argsE, appd, cpyO, slcO, slsO, bndO, lo1, mnxO, bldO, bldV, splice, rd, fpS, lk, isNil, Nat.reduceBEq, Nat.reduceEqDiff, Nat.reduceAdd, Int.reduceEq, Int.reduceLT, Int.reduceLE, Int.reduceToNat, reduceIte, reduceCtorEq, Nat.reduceLeDiff, Nat.reduceLT, Nat.reduceMul, Nat.reduceSub]
      refine ⟨_, code_get s _ 6 hs, ?_⟩
      simp (maxSteps := 1000000) (disch := omega) only [rg, opX, opI, look, nth, setN, outO, binO, intO, strO, argsE, appd, cpyO, slcO, slsO, bndO, lo1, mnxO, bldO, bldV, splice, rd, fpS, lk, isNil, Nat.reduceBEq, Nat.reduceEqDiff, Nat.reduceAdd, Int.reduceEq, Int.reduceLT, Int.reduceLE, Int.reduceToNat, reduceIte, reduceCtorEq, Nat.reduceLeDiff, Nat.reduceLT, Nat.reduceMul, Nat.reduceSub, gV, e1, sttV]
      by_cases c : (getS s (rdSt s 2).2.1 6).2.2 = 0
      · simp (maxSteps := 1000000) (disch := omega) only [rg, opX, opI, look, nth, setN, outO, binO, intO, strO, argsE, appd, cpyO, slcO, slsO, bndO, lo1, mnxO, bldO, bldV, splice, rd, fpS, lk, isNil, Nat.reduceBEq, Nat.reduceEqDiff, Nat.reduceAdd, Int.reduceEq, Int.reduceLT, Int.reduceLE, Int.reduceToNat, reduceIte, reduceCtorEq, Nat.reduceLeDiff, Nat.reduceLT, Nat.reduceMul, Nat.reduceSub, gV, e1, sttV, c]
        refine hN _ _ i1 ?_
        rw [hs1]
        refine ⟨by show 2 ≤ q + 1; omega, c, (by simp (disch := omega) only [upd_eq, upd_ne, wo_0, wo_1, wo_2, e0]), (by simp (disch := omega) only [upd_eq, upd_ne, wo_0, wo_1, wo_2, sttV, setSt]), rfl⟩
      · simp (maxSteps := 1000000) (disch := omega) only [rg, opX, opI, look, nth, setN, outO, binO, intO, strO, argsE, appd, cpyO, slcO, slsO, bndO, lo1, mnxO, bldO, bldV, splice, rd, fpS, lk, isNil, Nat.reduceBEq, Nat.reduceEqDiff, Nat.reduceAdd, Int.reduceEq, Int.reduceLT, Int.reduceLE, Int.reduceToNat, reduceIte, reduceCtorEq, Nat.reduceLeDiff, Nat.reduceLT, Nat.reduceMul, Nat.reduceSub, gV, e1, sttV, c, e0, zeroSt]
        refine hR _ _ ?_
        simp (maxSteps := 1000000) (disch := omega) only [rg, opX, opI, look, nth, setN, outO, binO, intO, strO, argsE, appd, cpyO, slcO, slsO, bndO, lo1, mnxO, bldO, bldV, splice, rd, fpS, lk, isNil, Nat.reduceBEq, Nat.reduceEqDiff, Nat.reduceAdd, Int.reduceEq, Int.reduceLT, Int.reduceLE, Int.reduceToNat, reduceIte, reduceCtorEq, Nat.reduceLeDiff, Nat.reduceLT, Nat.reduceMul, Nat.reduceSub]
        (refine fin_x rfl ?_ ?_ <;> simp [pack, lo, loL, V.closed, closedL, mv_closed, stV, hbad c, sttV, zeroSt])
    · have hs1 : rdSt s (3 + 1) = (setSt 3 (rdSt s 3).1 (getS s (rdSt s 3).2.1 6).1, (getS s (rdSt s 3).2.1 6).2) := by show (setSt 3 (rdSt s 3).1 (nextS s (rdSt s 3).2 (szSt 3)).1, (nextS s (rdSt s 3).2 (szSt 3)).2) = _; rw [step]; rfl
      have hbad := rdSt_bad s (3 + 1)
      rw [hs1] at hbad
      simp only at hbad
      simp (maxSteps := 1000000) (disch := omega) only [rg, opX, opI, look, nth, setN, outO, binO, intO, strO, argsE, appd, cpyO, slcO, slsO, bndO, lo1, mnxO, bldO, bldV, splice, rd, fpS, lk, isNil, Nat.reduceBEq, Nat.reduceEqDiff, Nat.reduceAdd, Int.reduceEq, Int.reduceLT, Int.reduceLE, Int.reduceToNat, reduceIte, reduceCtorEq, Nat.reduceLeDiff, Nat.reduceLT, Nat.reduceMul, Nat.reduceSub]
      refine ⟨_, code_get s _ 6 hs, ?_⟩
      simp (maxSteps := 1000000) (disch := omega) only [rg, opX, opI, look, nth, setN, outO, binO, intO, strO, argsE, appd, cpyO, slcO, slsO, bndO, lo1, mnxO, bldO, bldV, splice, rd, fpS, lk, isNil, Nat.reduceBEq, Nat.reduceEqDiff, Nat.reduceAdd, Int.reduceEq, Int.reduceLT, Int.reduceLE, Int.reduceToNat, reduceIte, reduceCtorEq, Nat.reduceLeDiff, Nat.reduceLT, Nat.reduceMul, Nat.reduceSub, gV, e1, sttV]
      by_cases c : (getS s (rdSt s 3).2.1 6).2.2 = 0
      · simp (maxSteps := 1000000) (disch := omega) only [rg, opX, opI, look, nth, setN, outO, binO, intO, strO, argsE, appd, cpyO, slcO, slsO, bndO, lo1, mnxO, bldO, bldV, splice, rd, fpS, lk, isNil, Nat.reduceBEq, Nat.reduceEqDiff, Nat.reduceAdd, Int.reduceEq, Int.reduceLT, Int.reduceLE, Int.reduceToNat, reduceIte, reduceCtorEq, Nat.reduceLeDiff, Nat.reduceLT, Nat.reduceMul, Nat.reduceSub, gV, e1, sttV, c]
        refine hN _ _ i1 ?_
        rw [hs1]
        refine ⟨by show 2 ≤ q + 1; omega, c, (by simp (disch := omega) only [upd_eq, upd_ne, wo_0, wo_1, wo_2, e0]), (by simp (disch := omega) only [upd_eq, upd_ne, wo_0, wo_1, wo_2, sttV, setSt]), rfl⟩
      · simp (maxSteps := 1000000) (disch := omega) only [rg, opX, opI, look, nth, setN, outO, binO, intO, strO, argsE, appd, cpyO, slcO, slsO, bndO, lo1, mnxO, bldO, bldV, splice, rd, fpS, lk, isNil, Nat.reduceBEq, Nat.reduceEqDiff, Nat.reduceAdd, Int.reduceEq, Int.reduceLT, Int.reduceLE, Int.reduceToNat, reduceIte, reduceCtorEq, Nat.reduceLeDiff, Nat.reduceLT, Nat.reduceMul, Nat.reduceSub, gV, e1, sttV, c, e0, zeroSt]
        refine hR _ _ ?_
        simp (maxSteps := 1000000) (disch := omega) only [rg, opX, opI, look, nth, setN, outO, binO, intO, strO, argsE, appd, cpyO, slcO, slsO, bndO, lo1, mnxO, bldO, bldV, splice, rd, fpS, lk, isNil, Nat.reduceBEq, Nat.reduceEqDiff, Nat.reduceAdd, Int.reduceEq, Int.reduceLT, Int.reduceLE, Int.reduceToNat, reduceIte, reduceCtorEq, Nat.reduceLeDiff, Nat.reduceLT, Nat.reduceMul, Nat.reduceSub]
        (refine fin_x rfl ?_ ?_ <;> simp [pack, lo, loL, V.closed, closedL, mv_closed, stV, hbad c, sttV, zeroSt])
  · obtain rfl : i = 4 := by omega
    refine hX _ _ _ ?_
    simp (maxSteps := 1000000) (disch := omega) only [rg, opX, opI, look, nth, setN, outO, binO, intO, strO, argsE, appd, cpyO, slcO, slsO, bndO, lo1, mnxO, bldO, bldV, splice, rd, fpS, lk, isNil, Nat.reduceBEq, Nat.reduceEqDiff, Nat.reduceAdd, Int.reduceEq, Int.reduceLT, Int.reduceLE, Int.reduceToNat, reduceIte, reduceCtorEq, Nat.reduceLeDiff, Nat.reduceLT, Nat.reduceMul, Nat.reduceSub]
    refine x_frz0 ?_
    simp (maxSteps := 1000000) (disch := omega) only [rg, opX, opI, look, nth, setN, outO, binO, intO, strO, argsE, appd, cpyO, slcO, slsO, bndO, lo1, mnxO, bldO, bldV, splice, rd, fpS, lk, isNil, Nat.reduceBEq, Nat.reduceEqDiff, Nat.reduceAdd, Int.reduceEq, Int.reduceLT, Int.reduceLE, Int.reduceToNat, reduceIte, reduceCtorEq, Nat.reduceLeDiff, Nat.reduceLT, Nat.reduceMul, Nat.reduceSub]
    refine ⟨_, code_cut s _ hs, ?_⟩
    have htx : txtS s (rdSt s 4).2 = cutS s (rdSt s 4).2.1 := by simp [txtS, hz]
    have hrd := stRead_eq s
    rw [htx] at hrd
    have kst := task_stands { (rdSt s 4).1 with result := (cutS s (rdSt s 4).2.1).1 } (Nat.le_trans (cutS_len _ _) (by omega))
    unfold sttV at kst
    by_cases c : (cutS s (rdSt s 4).2.1).2.2 = 0
    · simp (maxSteps := 1000000) (disch := omega) only [rg, opX, opI, look, nth, setN, outO, binO, intO, strO, argsE, appd, cpyO, slcO, slsO, bndO, lo1, mnxO, bldO, bldV, splice, rd, fpS, lk, isNil, Nat.reduceBEq, Nat.reduceEqDiff, Nat.reduceAdd, Int.reduceEq, Int.reduceLT, Int.reduceLE, Int.reduceToNat, reduceIte, reduceCtorEq, Nat.reduceLeDiff, Nat.reduceLT, Nat.reduceMul, Nat.reduceSub, cV, e1, sttV, c]
      refine ⟨fun c2 => ⟨_, kst, ?_⟩, fun c2 => ?_⟩
      · cases hst : standsS { (rdSt s 4).1 with result := (cutS s (rdSt s 4).2.1).1 } with
        | true =>
          simp (maxSteps := 1000000) (disch := omega) only [rg, opX, opI, look, nth, setN, outO, binO, intO, strO, argsE, appd, cpyO, slcO, slsO, bndO, lo1, mnxO, bldO, bldV, splice, rd, fpS, lk, isNil, Nat.reduceBEq, Nat.reduceEqDiff, Nat.reduceAdd, Int.reduceEq, Int.reduceLT, Int.reduceLE, Int.reduceToNat, reduceIte, reduceCtorEq, Nat.reduceLeDiff, Nat.reduceLT, Nat.reduceMul, Nat.reduceSub, e0, sttV, zeroSt]
          (refine fin_x rfl ?_ ?_ <;> simp [pack, lo, loL, V.closed, closedL, mv_closed, stV, stGetS, hrd, c, c2, hst, sttV])
        | false =>
          simp (maxSteps := 1000000) (disch := omega) only [rg, opX, opI, look, nth, setN, outO, binO, intO, strO, argsE, appd, cpyO, slcO, slsO, bndO, lo1, mnxO, bldO, bldV, splice, rd, fpS, lk, isNil, Nat.reduceBEq, Nat.reduceEqDiff, Nat.reduceAdd, Int.reduceEq, Int.reduceLT, Int.reduceLE, Int.reduceToNat, reduceIte, reduceCtorEq, Nat.reduceLeDiff, Nat.reduceLT, Nat.reduceMul, Nat.reduceSub, e0, sttV, zeroSt]
          (refine fin_x rfl ?_ ?_ <;> simp [pack, lo, loL, V.closed, closedL, mv_closed, stV, stGetS, hrd, c, c2, hst, sttV, zeroSt])
      · simp (maxSteps := 1000000) (disch := omega) only [rg, opX, opI, look, nth, setN, outO, binO, intO, strO, argsE, appd, cpyO, slcO, slsO, bndO, lo1, mnxO, bldO, bldV, splice, rd, fpS, lk, isNil, Nat.reduceBEq, Nat.reduceEqDiff, Nat.reduceAdd, Int.reduceEq, Int.reduceLT, Int.reduceLE, Int.reduceToNat, reduceIte, reduceCtorEq, Nat.reduceLeDiff, Nat.reduceLT, Nat.reduceMul, Nat.reduceSub, e0, sttV, zeroSt]
        (refine fin_x rfl ?_ ?_ <;> simp [pack, lo, loL, V.closed, closedL, mv_closed, stV, stGetS, hrd, c, c2, sttV, zeroSt])
    · simp (maxSteps := 1000000) (disch := omega) only [rg, opX, opI, look, nth, setN, outO, binO, intO, strO, argsE, appd, cpyO, slcO, slsO, bndO, lo1, mnxO, bldO, bldV, splice, rd, fpS, lk, isNil, Nat.reduceBEq, Nat.reduceEqDiff, Nat.reduceAdd, Int.reduceEq, Int.reduceLT, Int.reduceLE, Int.reduceToNat, reduceIte, reduceCtorEq, Nat.reduceLeDiff, Nat.reduceLT, Nat.reduceMul, Nat.reduceSub, cV, e1, sttV, c, e0, zeroSt]
      (refine fin_x rfl ?_ ?_ <;> simp [pack, lo, loL, V.closed, closedL, mv_closed, stV, stGetS, hrd, c, sttV, zeroSt])

end Go.Proofs.Ytjlpmndipceboaa.Ev
end
section
set_option linter.unusedSimpArgs false
set_option linter.unusedVariables false
set_option maxRecDepth 10000
namespace Go.Proofs.Ytjlpmndipceboaa.Ev
open Go

def ansNumS (a : Ans) : Bool := decide (0 ≤ a.why ∧ a.why ≤ 65535 ∧ a.key.length ≤ 255 ∧ 0 ≤ a.task ∧ a.task ≤ 255 ∧ 0 ≤ a.token ∧ a.token < 281474976710656 ∧ 0 ≤ a.is ∧ a.is ≤ 255 ∧ a.states.length ≤ 255)
def ansRightS (a : Ans) : Bool := ansNumS a && a.states.all standsS
def ansHead (a : Ans) : Str := (((((putS a.why 2).1 ++ (textS a.key).1) ++ (putS a.task 1).1) ++ (putS a.token 6).1) ++ (putS a.is 1).1) ++ (putS a.states.length 1).1
def stsB (l : List Stt) : Str := (l.map fun s => (textS (stBytes s)).1).flatten
def answerS (a : Ans) : Str × Int := if ansRightS a = true then (sealS (ansHead a ++ stsB a.states), 0) else ([], 1)
theorem stBytes_len (s : Stt) : (stBytes s).length ≤ 26 + s.result.length := by
  have p1 := putS_len s.is 1
  have p2 := putS_len s.tried 1
  have p3 := putS_len s.due 6
  have p4 := putS_len s.token 6
  have p5 := textS_len s.result
  simp [stBytes]; omega
theorem stands_len {s : Stt} (h : standsS s = true) : s.result.length ≤ 16 := by
  simp only [standsS, Bool.and_eq_true, decide_eq_true_eq] at h; omega
theorem stsB_succ {l : List Stt} {i : Nat} (h : i < l.length) : stsB (l.take (i + 1)) = stsB (l.take i) ++ (textS (stBytes l[i])).1 := by
  rw [List.take_succ_eq_append_getElem h, stsB, List.map_append, List.flatten_append]; simp [stsB]
theorem stsB_len : ∀ {l : List Stt}, (∀ s ∈ l, standsS s = true) → (stsB l).length ≤ 44 * l.length
  | [], _ => by simp [stsB]
  | s :: l, h => by
    have h1 := stands_len (h s (by simp))
    have h2 := stBytes_len s
    have h3 := textS_len (stBytes s)
    have ih := stsB_len (l := l) fun x hx => h x (by simp [hx])
    have e : stsB (s :: l) = (textS (stBytes s)).1 ++ stsB l := rfl
    rw [e, List.length_append, List.length_cons]; omega
def okSt (s : Stt) : Prop := s.result.length ≤ 4611686018427387904 ∧ i64S s
def okAns (a : Ans) : Prop := a.key.length ≤ 1000000 ∧ a.states.length ≤ 1000000 ∧ ∀ s ∈ a.states, okSt s
theorem ansHead_len (a : Ans) : (ansHead a).length ≤ 40 + a.key.length := by
  have p1 := putS_len a.why 2
  have p2 := putS_len a.task 1
  have p3 := putS_len a.token 6
  have p4 := putS_len a.is 1
  have p5 := putS_len a.states.length 1
  have p6 := textS_len a.key
  simp [ansHead]; omega

theorem ref_answer (a : Ans) (ha : okAns a) : PCall Try.prog 17 [ansV a] (sV (answerS a)) := by
  refine en17 (by simp) (by simp [closedL, V.closed, ansV_closed]) ?_
  obtain ⟨hk, hl, hst⟩ := ha
  have no : ansNumS a = false → answerS a = ([], 1) := fun h => by simp [answerS, ansRightS, h]
  simp (maxSteps := 1000000) (disch := omega) only [rg, opX, opI, look, nth, setN, outO, binO, intO, strO, argsE, appd, cpyO, slcO, slsO, bndO, lo1, mnxO, bldO, bldV, splice, rd, fpS, lk, isNil, Nat.reduceBEq, Nat.reduceEqDiff, Nat.reduceAdd, Int.reduceEq, Int.reduceLT, Int.reduceLE, Int.reduceToNat, reduceIte, reduceCtorEq, Nat.reduceLeDiff, Nat.reduceLT, Nat.reduceMul, Nat.reduceSub, c17, ansV, sttsV]
  by_cases c1 : a.why < 0
  · simp (maxSteps := 1000000) (disch := omega) only [rg, opX, opI, look, nth, setN, outO, binO, intO, strO, argsE, appd, cpyO, slcO, slsO, bndO, lo1, mnxO, bldO, bldV, splice, rd, fpS, lk, isNil, Nat.reduceBEq, Nat.reduceEqDiff, Nat.reduceAdd, Int.reduceEq, Int.reduceLT, Int.reduceLE, Int.reduceToNat, reduceIte, reduceCtorEq, Nat.reduceLeDiff, Nat.reduceLT, Nat.reduceMul, Nat.reduceSub, c1]
    (refine fin_x rfl ?_ ?_ <;> simp [pack, lo, loL, V.closed, closedL, mv_closed, sV, no (by simp [ansNumS]; omega)])
  by_cases c2 : 65535 < a.why
  · simp (maxSteps := 1000000) (disch := omega) only [rg, opX, opI, look, nth, setN, outO, binO, intO, strO, argsE, appd, cpyO, slcO, slsO, bndO, lo1, mnxO, bldO, bldV, splice, rd, fpS, lk, isNil, Nat.reduceBEq, Nat.reduceEqDiff, Nat.reduceAdd, Int.reduceEq, Int.reduceLT, Int.reduceLE, Int.reduceToNat, reduceIte, reduceCtorEq, Nat.reduceLeDiff, Nat.reduceLT, Nat.reduceMul, Nat.reduceSub, c1, c2]
    (refine fin_x rfl ?_ ?_ <;> simp [pack, lo, loL, V.closed, closedL, mv_closed, sV, no (by simp [ansNumS]; omega)])
  by_cases c3 : (255 : Int) < a.key.length
  · simp (maxSteps := 1000000) (disch := omega) only [rg, opX, opI, look, nth, setN, outO, binO, intO, strO, argsE, appd, cpyO, slcO, slsO, bndO, lo1, mnxO, bldO, bldV, splice, rd, fpS, lk, isNil, Nat.reduceBEq, Nat.reduceEqDiff, Nat.reduceAdd, Int.reduceEq, Int.reduceLT, Int.reduceLE, Int.reduceToNat, reduceIte, reduceCtorEq, Nat.reduceLeDiff, Nat.reduceLT, Nat.reduceMul, Nat.reduceSub, c1, c2, c3]
    (refine fin_x rfl ?_ ?_ <;> simp [pack, lo, loL, V.closed, closedL, mv_closed, sV, no (by simp [ansNumS]; omega)])
  by_cases c4 : a.task < 0
  · simp (maxSteps := 1000000) (disch := omega) only [rg, opX, opI, look, nth, setN, outO, binO, intO, strO, argsE, appd, cpyO, slcO, slsO, bndO, lo1, mnxO, bldO, bldV, splice, rd, fpS, lk, isNil, Nat.reduceBEq, Nat.reduceEqDiff, Nat.reduceAdd, Int.reduceEq, Int.reduceLT, Int.reduceLE, Int.reduceToNat, reduceIte, reduceCtorEq, Nat.reduceLeDiff, Nat.reduceLT, Nat.reduceMul, Nat.reduceSub, c1, c2, c3, c4]
    (refine fin_x rfl ?_ ?_ <;> simp [pack, lo, loL, V.closed, closedL, mv_closed, sV, no (by simp [ansNumS]; omega)])
  by_cases c5 : 255 < a.task
  · simp (maxSteps := 1000000) (disch := omega) only [rg, opX, opI, look, nth, setN, outO, binO, intO, strO, argsE, appd, cpyO, slcO, slsO, bndO, lo1, mnxO, bldO, bldV, splice, rd, fpS, lk, isNil, Nat.reduceBEq, Nat.reduceEqDiff, Nat.reduceAdd, Int.reduceEq, Int.reduceLT, Int.reduceLE, Int.reduceToNat, reduceIte, reduceCtorEq, Nat.reduceLeDiff, Nat.reduceLT, Nat.reduceMul, Nat.reduceSub, c1, c2, c3, c4, c5]
    (refine fin_x rfl ?_ ?_ <;> simp [pack, lo, loL, V.closed, closedL, mv_closed, sV, no (by simp [ansNumS]; omega)])
  simp (maxSteps := 1000000) (disch := omega) only [rg, opX, opI, look, nth, setN, outO, binO, intO, strO, argsE, appd, cpyO, slcO, slsO, bndO, lo1, mnxO, bldO, bldV, splice, rd, fpS, lk, isNil, Nat.reduceBEq, Nat.reduceEqDiff, Nat.reduceAdd, Int.reduceEq, Int.reduceLT, Int.reduceLE, Int.reduceToNat, reduceIte, reduceCtorEq, Nat.reduceLeDiff, Nat.reduceLT, Nat.reduceMul, Nat.reduceSub, c1, c2, c3, c4, c5]
  refine ⟨_, ref23_six a.token, ?_⟩
  by_cases c6 : 0 ≤ a.token ∧ a.token < 281474976710656
  case neg =>
    rw [decide_eq_false c6]
    simp (maxSteps := 1000000) (disch := omega) only [rg, opX, opI, look, nth, setN, outO, binO, intO, strO, argsE, appd, cpyO, slcO, slsO, bndO, lo1, mnxO, bldO, bldV, splice, rd, fpS, lk, isNil, Nat.reduceBEq, Nat.reduceEqDiff, Nat.reduceAdd, Int.reduceEq, Int.reduceLT, Int.reduceLE, Int.reduceToNat, reduceIte, reduceCtorEq, Nat.reduceLeDiff, Nat.reduceLT, Nat.reduceMul, Nat.reduceSub]
    (refine fin_x rfl ?_ ?_ <;> simp [pack, lo, loL, V.closed, closedL, mv_closed, sV, no (by simp [ansNumS]; omega)])
  rw [decide_eq_true c6]
  by_cases c7 : a.is < 0
  · simp (maxSteps := 1000000) (disch := omega) only [rg, opX, opI, look, nth, setN, outO, binO, intO, strO, argsE, appd, cpyO, slcO, slsO, bndO, lo1, mnxO, bldO, bldV, splice, rd, fpS, lk, isNil, Nat.reduceBEq, Nat.reduceEqDiff, Nat.reduceAdd, Int.reduceEq, Int.reduceLT, Int.reduceLE, Int.reduceToNat, reduceIte, reduceCtorEq, Nat.reduceLeDiff, Nat.reduceLT, Nat.reduceMul, Nat.reduceSub, c7]
    (refine fin_x rfl ?_ ?_ <;> simp [pack, lo, loL, V.closed, closedL, mv_closed, sV, no (by simp [ansNumS]; omega)])
  by_cases c8 : 255 < a.is
  · simp (maxSteps := 1000000) (disch := omega) only [rg, opX, opI, look, nth, setN, outO, binO, intO, strO, argsE, appd, cpyO, slcO, slsO, bndO, lo1, mnxO, bldO, bldV, splice, rd, fpS, lk, isNil, Nat.reduceBEq, Nat.reduceEqDiff, Nat.reduceAdd, Int.reduceEq, Int.reduceLT, Int.reduceLE, Int.reduceToNat, reduceIte, reduceCtorEq, Nat.reduceLeDiff, Nat.reduceLT, Nat.reduceMul, Nat.reduceSub, c7, c8]
    (refine fin_x rfl ?_ ?_ <;> simp [pack, lo, loL, V.closed, closedL, mv_closed, sV, no (by simp [ansNumS]; omega)])
  by_cases c9 : (255 : Int) < a.states.length
  · simp (maxSteps := 1000000) (disch := omega) only [rg, opX, opI, look, nth, setN, outO, binO, intO, strO, argsE, appd, cpyO, slcO, slsO, bndO, lo1, mnxO, bldO, bldV, splice, rd, fpS, lk, isNil, Nat.reduceBEq, Nat.reduceEqDiff, Nat.reduceAdd, Int.reduceEq, Int.reduceLT, Int.reduceLE, Int.reduceToNat, reduceIte, reduceCtorEq, Nat.reduceLeDiff, Nat.reduceLT, Nat.reduceMul, Nat.reduceSub, c7, c8, c9]
    (refine fin_x rfl ?_ ?_ <;> simp [pack, lo, loL, V.closed, closedL, mv_closed, sV, no (by simp [ansNumS]; omega)])
  have yes : ansNumS a = true := by simp [ansNumS]; omega
  have hA : ansRightS a = a.states.all standsS := by simp [ansRightS, yes]
  simp (maxSteps := 1000000) (disch := omega) only [rg, opX, opI, look, nth, setN, outO, binO, intO, strO, argsE, appd, cpyO, slcO, slsO, bndO, lo1, mnxO, bldO, bldV, splice, rd, fpS, lk, isNil, Nat.reduceBEq, Nat.reduceEqDiff, Nat.reduceAdd, Int.reduceEq, Int.reduceLT, Int.reduceLE, Int.reduceToNat, reduceIte, reduceCtorEq, Nat.reduceLeDiff, Nat.reduceLT, Nat.reduceMul, Nat.reduceSub, c7, c8, c9]
  refine ⟨_, ref23_number a.why 2 (by omega), ?_⟩
  simp (maxSteps := 1000000) (disch := omega) only [rg, opX, opI, look, nth, setN, outO, binO, intO, strO, argsE, appd, cpyO, slcO, slsO, bndO, lo1, mnxO, bldO, bldV, splice, rd, fpS, lk, isNil, Nat.reduceBEq, Nat.reduceEqDiff, Nat.reduceAdd, Int.reduceEq, Int.reduceLT, Int.reduceLE, Int.reduceToNat, reduceIte, reduceCtorEq, Nat.reduceLeDiff, Nat.reduceLT, Nat.reduceMul, Nat.reduceSub]
  refine ⟨_, ref23_text a.key (by omega), ?_⟩
  have p1 := putS_len a.why 2
  have p2 := putS_len a.task 1
  have p3 := putS_len a.token 6
  have p4 := putS_len a.is 1
  have p5 := putS_len a.states.length 1
  have p6 := textS_len a.key
  simp (maxSteps := 1000000) (disch := omega) only [rg, opX, opI, look, nth, setN, outO, binO, intO, strO, argsE, appd, cpyO, slcO, slsO, bndO, lo1, mnxO, bldO, bldV, splice, rd, fpS, lk, isNil, Nat.reduceBEq, Nat.reduceEqDiff, Nat.reduceAdd, Int.reduceEq, Int.reduceLT, Int.reduceLE, Int.reduceToNat, reduceIte, reduceCtorEq, Nat.reduceLeDiff, Nat.reduceLT, Nat.reduceMul, Nat.reduceSub, List.length_append]
  refine ⟨by omega, _, ref23_number a.task 1 (by omega), ?_⟩
  simp (maxSteps := 1000000) (disch := omega) only [rg, opX, opI, look, nth, setN, outO, binO, intO, strO, argsE, appd, cpyO, slcO, slsO, bndO, lo1, mnxO, bldO, bldV, splice, rd, fpS, lk, isNil, Nat.reduceBEq, Nat.reduceEqDiff, Nat.reduceAdd, Int.reduceEq, Int.reduceLT, Int.reduceLE, Int.reduceToNat, reduceIte, reduceCtorEq, Nat.reduceLeDiff, Nat.reduceLT, Nat.reduceMul, Nat.reduceSub, List.length_append]
  refine ⟨by omega, _, ref23_number a.token 6 (by omega), ?_⟩
  simp (maxSteps := 1000000) (disch := omega) only [rg, opX, opI, look, nth, setN, outO, binO, intO, strO, argsE, appd, cpyO, slcO, slsO, bndO, lo1, mnxO, bldO, bldV, splice, rd, fpS, lk, isNil, Nat.reduceBEq, Nat.reduceEqDiff, Nat.reduceAdd, Int.reduceEq, Int.reduceLT, Int.reduceLE, Int.reduceToNat, reduceIte, reduceCtorEq, Nat.reduceLeDiff, Nat.reduceLT, Nat.reduceMul, Nat.reduceSub, List.length_append]
  refine ⟨by omega, _, ref23_number a.is 1 (by omega), ?_⟩
  simp (maxSteps := 1000000) (disch := omega) only [rg, opX, opI, look, nth, setN, outO, binO, intO, strO, argsE, appd, cpyO, slcO, slsO, bndO, lo1, mnxO, bldO, bldV, splice, rd, fpS, lk, isNil, Nat.reduceBEq, Nat.reduceEqDiff, Nat.reduceAdd, Int.reduceEq, Int.reduceLT, Int.reduceLE, Int.reduceToNat, reduceIte, reduceCtorEq, Nat.reduceLeDiff, Nat.reduceLT, Nat.reduceMul, Nat.reduceSub, List.length_append]
  refine ⟨by omega, _, ref23_number a.states.length 1 (by omega), ?_⟩
  simp (maxSteps := 1000000) (disch := omega) only [rg, opX, opI, look, nth, setN, outO, binO, intO, strO, argsE, appd, cpyO, slcO, slsO, bndO, lo1, mnxO, bldO, bldV, splice, rd, fpS, lk, isNil, Nat.reduceBEq, Nat.reduceEqDiff, Nat.reduceAdd, Int.reduceEq, Int.reduceLT, Int.reduceLE, Int.reduceToNat, reduceIte, reduceCtorEq, Nat.reduceLeDiff, Nat.reduceLT, Nat.reduceMul, Nat.reduceSub, List.length_append]
  have hhd := ansHead_len a
  refine ⟨by omega, ?_⟩
  refine x_it a.states.length (fun i σ H => (∀ s ∈ a.states.take i, standsS s = true) ∧ σ = [(4, .str (ansHead a ++ stsB (a.states.take i))), (78, sttsV a.states), (79, .int .i64 a.states.length), (80, .int .i64 i)]) ⟨by simp, by simp [stsB, ansHead, sttsV]⟩ ?_
  rintro T i σ ⟨q, m⟩ hi ⟨hs, rfl⟩ hN hX hR
  simp (maxSteps := 1000000) (disch := omega) only [rg, opX, opI, look, nth, setN, outO, binO, intO, strO, argsE, appd, cpyO, slcO, slsO, bndO, lo1, mnxO, bldO, bldV, splice, rd, fpS, lk, isNil, Nat.reduceBEq, Nat.reduceEqDiff, Nat.reduceAdd, Int.reduceEq, Int.reduceLT, Int.reduceLE, Int.reduceToNat, reduceIte, reduceCtorEq, Nat.reduceLeDiff, Nat.reduceLT, Nat.reduceMul, Nat.reduceSub, sttsV]
  refine ⟨fun h => ?_, fun h => ?_⟩
  · have i1 : i < a.states.length := by omega
    obtain ⟨g1, g2⟩ := hst _ (List.getElem_mem i1)
    have kst := ref_stands a.states[i] g1
    have hsl := stsB_len hs
    rw [List.length_take] at hsl
    unfold sttV at kst
    simp (maxSteps := 1000000) (disch := omega) only [rg, opX, opI, look, nth, setN, outO, binO, intO, strO, argsE, appd, cpyO, slcO, slsO, bndO, lo1, mnxO, bldO, bldV, splice, rd, fpS, lk, isNil, Nat.reduceBEq, Nat.reduceEqDiff, Nat.reduceAdd, Int.reduceEq, Int.reduceLT, Int.reduceLE, Int.reduceToNat, reduceIte, reduceCtorEq, Nat.reduceLeDiff, Nat.reduceLT, Nat.reduceMul, Nat.reduceSub, sttV]
    refine ⟨_, kst, ?_⟩
    cases hc : standsS a.states[i] with
    | false =>
      simp (maxSteps := 1000000) (disch := omega) only [rg, opX, opI, look, nth, setN, outO, binO, intO, strO, argsE, appd, cpyO, slcO, slsO, bndO, lo1, mnxO, bldO, bldV, splice, rd, fpS, lk, isNil, Nat.reduceBEq, Nat.reduceEqDiff, Nat.reduceAdd, Int.reduceEq, Int.reduceLT, Int.reduceLE, Int.reduceToNat, reduceIte, reduceCtorEq, Nat.reduceLeDiff, Nat.reduceLT, Nat.reduceMul, Nat.reduceSub]
      refine hR _ _ ?_
      simp (maxSteps := 1000000) (disch := omega) only [rg, opX, opI, look, nth, setN, outO, binO, intO, strO, argsE, appd, cpyO, slcO, slsO, bndO, lo1, mnxO, bldO, bldV, splice, rd, fpS, lk, isNil, Nat.reduceBEq, Nat.reduceEqDiff, Nat.reduceAdd, Int.reduceEq, Int.reduceLT, Int.reduceLE, Int.reduceToNat, reduceIte, reduceCtorEq, Nat.reduceLeDiff, Nat.reduceLT, Nat.reduceMul, Nat.reduceSub]
      have : ansRightS a = false := by
        rw [hA]; exact List.all_eq_false.2 ⟨_, List.getElem_mem i1, by simp [hc]⟩
      (refine fin_x rfl ?_ ?_ <;> simp [pack, lo, loL, V.closed, closedL, mv_closed, sV, answerS, this])
    | true =>
      have h1 := stands_len hc
      have kpt := ref_stput a.states[i] (by omega) g2
      unfold sttV at kpt
      have h2 := stBytes_len a.states[i]
      have h3 := textS_len (stBytes a.states[i])
      simp (maxSteps := 1000000) (disch := omega) only [rg, opX, opI, look, nth, setN, outO, binO, intO, strO, argsE, appd, cpyO, slcO, slsO, bndO, lo1, mnxO, bldO, bldV, splice, rd, fpS, lk, isNil, Nat.reduceBEq, Nat.reduceEqDiff, Nat.reduceAdd, Int.reduceEq, Int.reduceLT, Int.reduceLE, Int.reduceToNat, reduceIte, reduceCtorEq, Nat.reduceLeDiff, Nat.reduceLT, Nat.reduceMul, Nat.reduceSub]
      refine ⟨_, kpt, ?_⟩
      simp (maxSteps := 1000000) (disch := omega) only [rg, opX, opI, look, nth, setN, outO, binO, intO, strO, argsE, appd, cpyO, slcO, slsO, bndO, lo1, mnxO, bldO, bldV, splice, rd, fpS, lk, isNil, Nat.reduceBEq, Nat.reduceEqDiff, Nat.reduceAdd, Int.reduceEq, Int.reduceLT, Int.reduceLE, Int.reduceToNat, reduceIte, reduceCtorEq, Nat.reduceLeDiff, Nat.reduceLT, Nat.reduceMul, Nat.reduceSub]
      refine ⟨_, ref23_text (stBytes a.states[i]) (by omega), ?_⟩
      simp (maxSteps := 1000000) (disch := omega) only [rg, opX, opI, look, nth, setN, outO, binO, intO, strO, argsE, appd, cpyO, slcO, slsO, bndO, lo1, mnxO, bldO, bldV, splice, rd, fpS, lk, isNil, Nat.reduceBEq, Nat.reduceEqDiff, Nat.reduceAdd, Int.reduceEq, Int.reduceLT, Int.reduceLE, Int.reduceToNat, reduceIte, reduceCtorEq, Nat.reduceLeDiff, Nat.reduceLT, Nat.reduceMul, Nat.reduceSub, List.length_append]
      refine ⟨by omega, ?_⟩
      refine hN _ _ i1 ?_
      refine ⟨fun s hm => ?_, ?_⟩
      · rw [List.take_succ_eq_append_getElem i1] at hm
        rcases List.mem_append.1 hm with hm | hm
        · exact hs s hm
        · simp at hm; subst hm; exact hc
      · rw [stsB_succ i1, List.append_assoc]; rfl
  · obtain rfl : i = a.states.length := by omega
    rw [List.take_length] at hs ⊢
    have hsl := stsB_len hs
    refine hX _ _ _ ?_
    simp (maxSteps := 1000000) (disch := omega) only [rg, opX, opI, look, nth, setN, outO, binO, intO, strO, argsE, appd, cpyO, slcO, slsO, bndO, lo1, mnxO, bldO, bldV, splice, rd, fpS, lk, isNil, Nat.reduceBEq, Nat.reduceEqDiff, Nat.reduceAdd, Int.reduceEq, Int.reduceLT, Int.reduceLE, Int.reduceToNat, reduceIte, reduceCtorEq, Nat.reduceLeDiff, Nat.reduceLT, Nat.reduceMul, Nat.reduceSub]
    refine x_frz0 ?_
    simp (maxSteps := 1000000) (disch := omega) only [rg, opX, opI, look, nth, setN, outO, binO, intO, strO, argsE, appd, cpyO, slcO, slsO, bndO, lo1, mnxO, bldO, bldV, splice, rd, fpS, lk, isNil, Nat.reduceBEq, Nat.reduceEqDiff, Nat.reduceAdd, Int.reduceEq, Int.reduceLT, Int.reduceLE, Int.reduceToNat, reduceIte, reduceCtorEq, Nat.reduceLeDiff, Nat.reduceLT, Nat.reduceMul, Nat.reduceSub]
    refine ⟨_, ref_seal _ (by simp only [List.length_append]; omega), ?_⟩
    simp (maxSteps := 1000000) (disch := omega) only [rg, opX, opI, look, nth, setN, outO, binO, intO, strO, argsE, appd, cpyO, slcO, slsO, bndO, lo1, mnxO, bldO, bldV, splice, rd, fpS, lk, isNil, Nat.reduceBEq, Nat.reduceEqDiff, Nat.reduceAdd, Int.reduceEq, Int.reduceLT, Int.reduceLE, Int.reduceToNat, reduceIte, reduceCtorEq, Nat.reduceLeDiff, Nat.reduceLT, Nat.reduceMul, Nat.reduceSub]
    have : ansRightS a = true := by rw [hA]; exact List.all_eq_true.2 hs
    (refine fin_x rfl ?_ ?_ <;> simp [pack, lo, loL, V.closed, closedL, mv_closed, sV, answerS, this])

end Go.Proofs.Ytjlpmndipceboaa.Ev
end
section
set_option linter.unusedSimpArgs false
set_option linter.unusedVariables false
set_option maxRecDepth 10000
namespace Go.Proofs.Ytjlpmndipceboaa.Ev
open Go

theorem putS_ok {n k : Int} : (putS n k).2 = 0 ↔ (1 ≤ k ∧ k ≤ 6 ∧ 0 ≤ n ∧ n < 256 ^ k.toNat) := by
  unfold putS; split
  · simp only; constructor
    · intro h; omega
    · intro h; omega
  · simp only [true_iff]; omega
def wSt (r : Str × Bool) (s : Stt) : Str × Bool := ((wTxt r (stPutS s).1).1, (wTxt r (stPutS s).1).2 || !decide ((stPutS s).2 = 0))
def wHead (a : Ans) : Str × Bool := wNum (wNum (wNum (wNum (wTxt (wNum ([], false) a.why 2) a.key) a.task 1) a.token 6) a.is 1) a.states.length 1
theorem wHead_eq (a : Ans) : wHead a = (ansHead a, !ansNumS a) := by
  have e1 : (wHead a).1 = ansHead a := by simp [wHead, wNum, wTxt, ansHead]
  have t : (textS a.key).2 = 0 ↔ a.key.length ≤ 65535 := by unfold textS; split <;> simp <;> omega
  have e2 : (wHead a).2 = !ansNumS a := by
    have : (wHead a).2 = false ↔ ansNumS a = true := by
      simp only [wHead, wNum, wTxt, Bool.or_eq_false_iff, Bool.not_eq_false', decide_eq_true_eq, decide_eq_false_iff_not, putS_ok, t, ansNumS, true_and]
      have q1 : (256 : Int) ^ (2 : Int).toNat = 65536 := rfl
      have q2 : (256 : Int) ^ (1 : Int).toNat = 256 := rfl
      have q3 : (256 : Int) ^ (6 : Int).toNat = 281474976710656 := rfl
      rw [q1, q2, q3]
      omega
    cases h1 : (wHead a).2 <;> cases h2 : ansNumS a <;> simp [h1, h2] at this ⊢
  exact Prod.ext e1 e2
theorem stPutS_len (s : Stt) : (stPutS s).1.length ≤ 42 := by
  unfold stPutS; split
  · next h => have h1 := stands_len h; have h2 := stBytes_len s; simp only; omega
  · simp
theorem wSt_len (r : Str × Bool) (s : Stt) : (wSt r s).1.length ≤ r.1.length + 44 := by
  have h1 := stPutS_len s
  have h2 := textS_len (stPutS s).1
  simp [wSt, wTxt]; omega
theorem wSts_len : ∀ (l : List Stt) (r : Str × Bool), (l.foldl wSt r).1.length ≤ r.1.length + 44 * l.length
  | [], r => by simp
  | s :: l, r => by
    have h1 := wSts_len l (wSt r s)
    have h2 := wSt_len r s
    simp only [List.foldl_cons, List.length_cons]; omega
theorem wSts_bad : ∀ (l : List Stt) (r : Str × Bool), r.2 = true → (l.foldl wSt r).2 = true
  | [], r, h => h
  | s :: l, r, h => wSts_bad l (wSt r s) (by simp [wSt, wTxt, h])
theorem wSts_eq : ∀ (l : List Stt) (r : Str × Bool), (l.all standsS = true → l.foldl wSt r = (r.1 ++ stsB l, r.2)) ∧ (l.all standsS = false → (l.foldl wSt r).2 = true)
  | [], r => ⟨fun _ => by simp [stsB], fun h => by simp at h⟩
  | s :: l, r => by
    cases hs : standsS s with
    | true =>
      have h1 := stands_len hs
      have h2 := stBytes_len s
      have e : stPutS s = (stBytes s, 0) := by simp [stPutS, hs]
      have et : textS (stBytes s) = (beS 2 (stBytes s).length ++ stBytes s, 0) := textS_in (by omega)
      have ew : wSt r s = (r.1 ++ (textS (stBytes s)).1, r.2) := by
        simp only [wSt, e, wTxt, et]
        simp; omega
      have := wSts_eq l (wSt r s)
      rw [List.foldl_cons, List.all_cons, hs, Bool.true_and]
      refine ⟨fun h => ?_, this.2⟩
      rw [this.1 h, ew]
      simp [stsB]
    | false =>
      refine ⟨fun h => by simp [hs] at h, fun _ => wSts_bad l _ ?_⟩
      simp [wSt, stPutS, hs]
theorem ans_end (a : Ans) (h : ansNumS a = true) : wEnd (a.states.foldl wSt (wHead a)) = answerS a := by
  rw [wHead_eq, h]
  cases hc : a.states.all standsS with
  | true =>
    rw [(wSts_eq a.states _).1 hc]
    simp [wEnd, answerS, ansRightS, h, hc]
  | false =>
    have := (wSts_eq a.states (ansHead a, !true)).2 hc
    simp only [wEnd, this, if_true]
    simp [answerS, ansRightS, h, hc]

def i64A (a : Ans) : Prop := a.why ≤ 9223372036854775807 ∧ a.task ≤ 9223372036854775807 ∧ a.token ≤ 9223372036854775807 ∧ a.is ≤ 9223372036854775807

theorem frame_answer (a : Ans) (ha : okAns a) (hi : i64A a) : PCall Try.prog 16 [ansV a] (sV (answerS a)) := by
  refine en16 (by simp) (by simp [closedL, V.closed, ansV_closed]) ?_
  obtain ⟨hk, hl, hst⟩ := ha
  obtain ⟨i1, i2, i3, i4⟩ := hi
  have no : ansNumS a = false → answerS a = ([], 1) := fun h => by simp [answerS, ansRightS, h]
  simp (maxSteps := 1000000) (disch := omega) only [rg, opX, opI, look, nth, setN, outO, binO, intO, strO, argsE, appd, cpyO, slcO, slsO, bndO, lo1, mnxO, bldO, bldV, splice, rd, fpS, lk, isNil, Nat.reduceBEq, Nat.reduceEqDiff, Nat.reduceAdd, Int.reduceEq, Int.reduceLT, Int.reduceLE, Int.reduceToNat, reduceIte, reduceCtorEq, Nat.reduceLeDiff, Nat.reduceLT, Nat.reduceMul, Nat.reduceSub, c16, ansV, sttsV]
  have wl : ∀ (r : Str × Bool) (n k : Int), (wNum r n k).1.length ≤ r.1.length + 6 := fun r n k => by have := putS_len n k; simp only [wNum, List.length_append]; omega
  have tl : ∀ (r : Str × Bool) (t : Str), (wTxt r t).1.length ≤ r.1.length + t.length + 2 := fun r t => by have := textS_len t; simp only [wTxt, List.length_append]; omega
  refine ⟨_, _, _, _, w_num _ 1 ([], false) a.why 2 (by simp) i1 (by simp) (by simp (disch := omega) only [upd_eq, upd_ne, wo_0, wo_1, wo_2, wrV]), ?_⟩
  have b1 := wl ([], false) a.why 2
  simp (maxSteps := 1000000) (disch := omega) only [rg, opX, opI, look, nth, setN, outO, binO, intO, strO, argsE, appd, cpyO, slcO, slsO, bndO, lo1, mnxO, bldO, bldV, splice, rd, fpS, lk, isNil, Nat.reduceBEq, Nat.reduceEqDiff, Nat.reduceAdd, Int.reduceEq, Int.reduceLT, Int.reduceLE, Int.reduceToNat, reduceIte, reduceCtorEq, Nat.reduceLeDiff, Nat.reduceLT, Nat.reduceMul, Nat.reduceSub]
  generalize hr1 : wNum ([], false) a.why 2 = r1 at b1
  refine ⟨_, _, _, _, w_text _ 1 r1 a.key (by simp at b1; omega) (by omega) (by simp) (by simp (disch := omega) only [upd_eq, upd_ne, wo_0, wo_1, wo_2]), ?_⟩
  have b2 := tl r1 a.key
  simp (maxSteps := 1000000) (disch := omega) only [rg, opX, opI, look, nth, setN, outO, binO, intO, strO, argsE, appd, cpyO, slcO, slsO, bndO, lo1, mnxO, bldO, bldV, splice, rd, fpS, lk, isNil, Nat.reduceBEq, Nat.reduceEqDiff, Nat.reduceAdd, Int.reduceEq, Int.reduceLT, Int.reduceLE, Int.reduceToNat, reduceIte, reduceCtorEq, Nat.reduceLeDiff, Nat.reduceLT, Nat.reduceMul, Nat.reduceSub]
  generalize hr2 : wTxt r1 a.key = r2 at b2
  refine ⟨_, _, _, _, w_num _ 1 r2 a.task 1 (by simp at b1; omega) i2 (by simp) (by simp (disch := omega) only [upd_eq, upd_ne, wo_0, wo_1, wo_2]), ?_⟩
  have b3 := wl r2 a.task 1
  simp (maxSteps := 1000000) (disch := omega) only [rg, opX, opI, look, nth, setN, outO, binO, intO, strO, argsE, appd, cpyO, slcO, slsO, bndO, lo1, mnxO, bldO, bldV, splice, rd, fpS, lk, isNil, Nat.reduceBEq, Nat.reduceEqDiff, Nat.reduceAdd, Int.reduceEq, Int.reduceLT, Int.reduceLE, Int.reduceToNat, reduceIte, reduceCtorEq, Nat.reduceLeDiff, Nat.reduceLT, Nat.reduceMul, Nat.reduceSub]
  generalize hr3 : wNum r2 a.task 1 = r3 at b3
  refine ⟨_, _, _, _, w_num _ 1 r3 a.token 6 (by simp at b1; omega) i3 (by simp) (by simp (disch := omega) only [upd_eq, upd_ne, wo_0, wo_1, wo_2]), ?_⟩
  have b4 := wl r3 a.token 6
  simp (maxSteps := 1000000) (disch := omega) only [rg, opX, opI, look, nth, setN, outO, binO, intO, strO, argsE, appd, cpyO, slcO, slsO, bndO, lo1, mnxO, bldO, bldV, splice, rd, fpS, lk, isNil, Nat.reduceBEq, Nat.reduceEqDiff, Nat.reduceAdd, Int.reduceEq, Int.reduceLT, Int.reduceLE, Int.reduceToNat, reduceIte, reduceCtorEq, Nat.reduceLeDiff, Nat.reduceLT, Nat.reduceMul, Nat.reduceSub]
  generalize hr4 : wNum r3 a.token 6 = r4 at b4
  refine ⟨_, _, _, _, w_num _ 1 r4 a.is 1 (by simp at b1; omega) i4 (by simp) (by simp (disch := omega) only [upd_eq, upd_ne, wo_0, wo_1, wo_2]), ?_⟩
  have b5 := wl r4 a.is 1
  simp (maxSteps := 1000000) (disch := omega) only [rg, opX, opI, look, nth, setN, outO, binO, intO, strO, argsE, appd, cpyO, slcO, slsO, bndO, lo1, mnxO, bldO, bldV, splice, rd, fpS, lk, isNil, Nat.reduceBEq, Nat.reduceEqDiff, Nat.reduceAdd, Int.reduceEq, Int.reduceLT, Int.reduceLE, Int.reduceToNat, reduceIte, reduceCtorEq, Nat.reduceLeDiff, Nat.reduceLT, Nat.reduceMul, Nat.reduceSub]
  generalize hr5 : wNum r4 a.is 1 = r5 at b5
  refine ⟨_, _, _, _, w_num _ 1 r5 a.states.length 1 (by simp at b1; omega) (by omega) (by simp) (by simp (disch := omega) only [upd_eq, upd_ne, wo_0, wo_1, wo_2]), ?_⟩
  have b6 := wl r5 a.states.length 1
  simp (maxSteps := 1000000) (disch := omega) only [rg, opX, opI, look, nth, setN, outO, binO, intO, strO, argsE, appd, cpyO, slcO, slsO, bndO, lo1, mnxO, bldO, bldV, splice, rd, fpS, lk, isNil, Nat.reduceBEq, Nat.reduceEqDiff, Nat.reduceAdd, Int.reduceEq, Int.reduceLT, Int.reduceLE, Int.reduceToNat, reduceIte, reduceCtorEq, Nat.reduceLeDiff, Nat.reduceLT, Nat.reduceMul, Nat.reduceSub]
  generalize hr6 : wNum r5 a.states.length 1 = r6 at b6
  have hw : wHead a = r6 := by simp only [wHead, hr1, hr2, hr3, hr4, hr5, hr6]
  have hl6 : r6.1.length ≤ 1001000 := by simp at b1; omega
  have h62 : r6.2 = !ansNumS a := by rw [← hw, wHead_eq]
  cases hn : ansNumS a with
  | false =>
    rw [hn] at h62
    simp (maxSteps := 1000000) (disch := omega) only [rg, opX, opI, look, nth, setN, outO, binO, intO, strO, argsE, appd, cpyO, slcO, slsO, bndO, lo1, mnxO, bldO, bldV, splice, rd, fpS, lk, isNil, Nat.reduceBEq, Nat.reduceEqDiff, Nat.reduceAdd, Int.reduceEq, Int.reduceLT, Int.reduceLE, Int.reduceToNat, reduceIte, reduceCtorEq, Nat.reduceLeDiff, Nat.reduceLT, Nat.reduceMul, Nat.reduceSub, wrV, h62]
    (refine fin_x rfl ?_ ?_ <;> simp [pack, lo, loL, V.closed, closedL, mv_closed, sV, no hn])
  | true =>
    have hlst : a.states.length ≤ 255 := by simp only [ansNumS, decide_eq_true_eq] at hn; omega
    have hend := ans_end a hn
    rw [hw] at hend
    rw [hn] at h62
    simp (maxSteps := 1000000) (disch := omega) only [rg, opX, opI, look, nth, setN, outO, binO, intO, strO, argsE, appd, cpyO, slcO, slsO, bndO, lo1, mnxO, bldO, bldV, splice, rd, fpS, lk, isNil, Nat.reduceBEq, Nat.reduceEqDiff, Nat.reduceAdd, Int.reduceEq, Int.reduceLT, Int.reduceLE, Int.reduceToNat, reduceIte, reduceCtorEq, Nat.reduceLeDiff, Nat.reduceLT, Nat.reduceMul, Nat.reduceSub, wrV, h62]
    refine x_it a.states.length (fun i σ H => 2 ≤ H.n ∧ H.m 1 = some (wrV ((a.states.take i).foldl wSt r6)) ∧ σ = [(4, .ptr 1 0 0), (41, sttsV a.states), (42, .int .i64 a.states.length), (43, .int .i64 i)]) ⟨Nat.le_refl 2, (by simp (disch := omega) only [upd_eq, upd_ne, wo_0, wo_1, wo_2, wrV, h62, List.take_zero, List.foldl_nil, Bool.not_true]), rfl⟩ ?_
    rintro T i σ ⟨q, m⟩ hi ⟨hq, e1, rfl⟩ hN hX hR
    simp only at hq e1
    simp (maxSteps := 1000000) (disch := omega) only [rg, opX, opI, look, nth, setN, outO, binO, intO, strO, argsE, appd, cpyO, slcO, slsO, bndO, lo1, mnxO, bldO, bldV, splice, rd, fpS, lk, isNil, Nat.reduceBEq, Nat.reduceEqDiff, Nat.reduceAdd, Int.reduceEq, Int.reduceLT, Int.reduceLE, Int.reduceToNat, reduceIte, reduceCtorEq, Nat.reduceLeDiff, Nat.reduceLT, Nat.reduceMul, Nat.reduceSub, sttsV]
    refine ⟨fun h => ?_, fun h => ?_⟩
    · have i1' : i < a.states.length := by omega
      obtain ⟨g1, g2⟩ := hst _ (List.getElem_mem i1')
      have kpt := task_put a.states[i] g1 g2
      have hpl := stPutS_len a.states[i]
      have hll := wSts_len (a.states.take i) r6
      have hlt : (a.states.take i).length ≤ 255 := by rw [List.length_take]; omega
      have hstep : (a.states.take (i + 1)).foldl wSt r6 = wSt ((a.states.take i).foldl wSt r6) a.states[i] := by
        rw [List.take_succ_eq_append_getElem i1', List.foldl_append]; rfl
      generalize (a.states.take i).foldl wSt r6 = r at e1 hll hstep
      have hq1 : 1 ≠ q := by omega
      unfold sttV at kpt
      simp (maxSteps := 1000000) (disch := omega) only [rg, opX, opI, look, nth, setN, outO, binO, intO, strO, argsE, appd, cpyO, slcO, slsO, bndO, lo1, mnxO, bldO, bldV, splice, rd, fpS, lk, isNil, Nat.reduceBEq, Nat.reduceEqDiff, Nat.reduceAdd, Int.reduceEq, Int.reduceLT, Int.reduceLE, Int.reduceToNat, reduceIte, reduceCtorEq, Nat.reduceLeDiff, Nat.reduceLT, Nat.reduceMul, Nat.reduceSub, sttV]
      refine ⟨_, kpt, ?_⟩
      simp (maxSteps := 1000000) (disch := omega) only [rg, opX, opI, look, nth, setN, outO, binO, intO, strO, argsE, appd, cpyO, slcO, slsO, bndO, lo1, mnxO, bldO, bldV, splice, rd, fpS, lk, isNil, Nat.reduceBEq, Nat.reduceEqDiff, Nat.reduceAdd, Int.reduceEq, Int.reduceLT, Int.reduceLE, Int.reduceToNat, reduceIte, reduceCtorEq, Nat.reduceLeDiff, Nat.reduceLT, Nat.reduceMul, Nat.reduceSub, sV]
      refine ⟨_, _, _, _, w_text _ 1 r (stPutS a.states[i]).1 (by omega) (by omega) (by show 1 < q + 1; omega) (by simp (disch := omega) only [upd_eq, upd_ne, wo_0, wo_1, wo_2, e1]), ?_⟩
      by_cases c : (stPutS a.states[i]).2 = 0
      · cases hb : (wTxt r (stPutS a.states[i]).1).2 with
        | true =>
          simp (maxSteps := 1000000) (disch := omega) only [rg, opX, opI, look, nth, setN, outO, binO, intO, strO, argsE, appd, cpyO, slcO, slsO, bndO, lo1, mnxO, bldO, bldV, splice, rd, fpS, lk, isNil, Nat.reduceBEq, Nat.reduceEqDiff, Nat.reduceAdd, Int.reduceEq, Int.reduceLT, Int.reduceLE, Int.reduceToNat, reduceIte, reduceCtorEq, Nat.reduceLeDiff, Nat.reduceLT, Nat.reduceMul, Nat.reduceSub, wrV, hb, c]
          refine hN _ _ i1' ?_
          rw [hstep]
          refine ⟨by show 2 ≤ q + 1; omega, (by simp (disch := omega) only [upd_eq, upd_ne, wo_0, wo_1, wo_2, wrV, wSt, hb, c, Bool.not_true, Bool.not_false, Bool.or_true, Bool.true_or, Bool.or_false, decide_true, decide_false]), rfl⟩
        | false =>
          simp (maxSteps := 1000000) (disch := omega) only [rg, opX, opI, look, nth, setN, outO, binO, intO, strO, argsE, appd, cpyO, slcO, slsO, bndO, lo1, mnxO, bldO, bldV, splice, rd, fpS, lk, isNil, Nat.reduceBEq, Nat.reduceEqDiff, Nat.reduceAdd, Int.reduceEq, Int.reduceLT, Int.reduceLE, Int.reduceToNat, reduceIte, reduceCtorEq, Nat.reduceLeDiff, Nat.reduceLT, Nat.reduceMul, Nat.reduceSub, wrV, hb, c]
          refine hN _ _ i1' ?_
          rw [hstep]
          refine ⟨by show 2 ≤ q + 1; omega, (by simp (disch := omega) only [upd_eq, upd_ne, wo_0, wo_1, wo_2, wrV, wSt, hb, c, Bool.not_true, Bool.not_false, Bool.or_true, Bool.true_or, Bool.or_false, decide_true, decide_false]), rfl⟩
      · cases hb : (wTxt r (stPutS a.states[i]).1).2 with
        | true =>
          simp (maxSteps := 1000000) (disch := omega) only [rg, opX, opI, look, nth, setN, outO, binO, intO, strO, argsE, appd, cpyO, slcO, slsO, bndO, lo1, mnxO, bldO, bldV, splice, rd, fpS, lk, isNil, Nat.reduceBEq, Nat.reduceEqDiff, Nat.reduceAdd, Int.reduceEq, Int.reduceLT, Int.reduceLE, Int.reduceToNat, reduceIte, reduceCtorEq, Nat.reduceLeDiff, Nat.reduceLT, Nat.reduceMul, Nat.reduceSub, wrV, hb, c]
          refine hN _ _ i1' ?_
          rw [hstep]
          refine ⟨by show 2 ≤ q + 1; omega, (by simp (disch := omega) only [upd_eq, upd_ne, wo_0, wo_1, wo_2, wrV, wSt, hb, c, Bool.not_true, Bool.not_false, Bool.or_true, Bool.true_or, Bool.or_false, decide_true, decide_false]), rfl⟩
        | false =>
          simp (maxSteps := 1000000) (disch := omega) only [rg, opX, opI, look, nth, setN, outO, binO, intO, strO, argsE, appd, cpyO, slcO, slsO, bndO, lo1, mnxO, bldO, bldV, splice, rd, fpS, lk, isNil, Nat.reduceBEq, Nat.reduceEqDiff, Nat.reduceAdd, Int.reduceEq, Int.reduceLT, Int.reduceLE, Int.reduceToNat, reduceIte, reduceCtorEq, Nat.reduceLeDiff, Nat.reduceLT, Nat.reduceMul, Nat.reduceSub, wrV, hb, c]
          refine hN _ _ i1' ?_
          rw [hstep]
          refine ⟨by show 2 ≤ q + 1; omega, (by simp (disch := omega) only [upd_eq, upd_ne, wo_0, wo_1, wo_2, wrV, wSt, hb, c, Bool.not_true, Bool.not_false, Bool.or_true, Bool.true_or, Bool.or_false, decide_true, decide_false]), rfl⟩
    · obtain rfl : i = a.states.length := by omega
      rw [List.take_length] at e1
      have hll := wSts_len a.states r6
      refine hX _ _ _ ?_
      simp (maxSteps := 1000000) (disch := omega) only [rg, opX, opI, look, nth, setN, outO, binO, intO, strO, argsE, appd, cpyO, slcO, slsO, bndO, lo1, mnxO, bldO, bldV, splice, rd, fpS, lk, isNil, Nat.reduceBEq, Nat.reduceEqDiff, Nat.reduceAdd, Int.reduceEq, Int.reduceLT, Int.reduceLE, Int.reduceToNat, reduceIte, reduceCtorEq, Nat.reduceLeDiff, Nat.reduceLT, Nat.reduceMul, Nat.reduceSub]
      refine x_frz0 ?_
      simp (maxSteps := 1000000) (disch := omega) only [rg, opX, opI, look, nth, setN, outO, binO, intO, strO, argsE, appd, cpyO, slcO, slsO, bndO, lo1, mnxO, bldO, bldV, splice, rd, fpS, lk, isNil, Nat.reduceBEq, Nat.reduceEqDiff, Nat.reduceAdd, Int.reduceEq, Int.reduceLT, Int.reduceLE, Int.reduceToNat, reduceIte, reduceCtorEq, Nat.reduceLeDiff, Nat.reduceLT, Nat.reduceMul, Nat.reduceSub]
      refine ⟨_, _, _, _, w_end _ 1 _ (by omega) (by show 1 < q; omega) e1, ?_⟩
      simp (maxSteps := 1000000) (disch := omega) only [rg, opX, opI, look, nth, setN, outO, binO, intO, strO, argsE, appd, cpyO, slcO, slsO, bndO, lo1, mnxO, bldO, bldV, splice, rd, fpS, lk, isNil, Nat.reduceBEq, Nat.reduceEqDiff, Nat.reduceAdd, Int.reduceEq, Int.reduceLT, Int.reduceLE, Int.reduceToNat, reduceIte, reduceCtorEq, Nat.reduceLeDiff, Nat.reduceLT, Nat.reduceMul, Nat.reduceSub, sV]
      rw [hend]
      (refine fin_x rfl ?_ ?_ <;> simp [pack, lo, loL, V.closed, closedL, mv_closed, sV])

end Go.Proofs.Ytjlpmndipceboaa.Ev
end
section
set_option linter.unusedSimpArgs false
set_option linter.unusedVariables false
set_option maxRecDepth 10000
namespace Go.Proofs.Ytjlpmndipceboaa.Ev
open Go

theorem frzH_get {fz : List Nat} {m : Hm} {id sz : Nat} {l : List V} (h : m id = some (.arr sz l)) (hn : id ∉ fz) : frzH fz m id = some (.arr sz (l.map (frzV fz m))) := by
  simp [frzH, hn, h, frzO]
theorem frz_ans {fz : List Nat} {m : Hm} {id n sz : Nat} {a : Int} {k : Str} {b c d : Int} {l : List V} (h : m id = some (.arr sz l)) (hi : id ∈ fz) (hn : n = l.length) (hc : closedL l = true) :
    frzV fz m (.agg [.int .i64 a, .str k, .int .i64 b, .int .i64 c, .int .i64 d, .sl id 0 n]) = .agg [.int .i64 a, .str k, .int .i64 b, .int .i64 c, .int .i64 d, .fsl .loose sz l] := by
  subst hn
  have e0 : only fz m id = some (.arr sz l) := by simp [only, hi, h]
  have sc : ∀ (k : Nat) (v : V), v.closed = true → snap k (only fz m) v = some v := fun k v hv => by cases k <;> simp [snap, hv]
  have ss : snap 3 (only fz m) (.sl id 0 l.length) = some (.fsl .loose sz l) := by
    rw [snap, if_neg (by simp [V.closed])]
    simp only [e0, Nat.zero_add, Nat.le_refl, if_true, List.drop_zero, List.take_length, mapO_closed hc]
  simp only [frzV]
  rw [snap, if_neg (by simp [V.closed, closedL])]
  simp only [mapO, sc 3 _ (show V.closed (.int .i64 _) = true from rfl), sc 3 _ (show V.closed (.str _) = true from rfl), ss]

theorem stGet_ok {s : Str} (h : (stGetS s).2 = 0) : standsS (stGetS s).1 = true := by
  unfold stGetS at h ⊢
  split
  · rename_i h1
    rw [if_pos h1] at h
    split
    · rename_i h2; exact h2.2
    · rename_i h2; rw [if_neg h2] at h; simp at h
  · rename_i h1
    rw [if_neg h1] at h; exact absurd h h1
theorem stands_ok {s : Stt} (h : standsS s = true) : okSt s := by
  simp only [standsS, stNumS, Bool.and_eq_true, decide_eq_true_eq] at h
  unfold okSt i64S
  omega

def zeroA : Ans := ⟨0, [], 0, 0, 0, []⟩
def refSts (p : Str) : Nat → Int × Int → Option (List Stt)
  | 0, _ => some []
  | k + 1, r => if (stGetS (txtS p r).1).2 = 0 then (refSts p k (txtS p r).2).map ((stGetS (txtS p r).1).1 :: ·) else none
def rawTold (p : Str) : Option Ans :=
  let a := nextS p (0, 0) 2
  let b := txtS p a.2
  let c := nextS p b.2 1
  let d := nextS p c.2 6
  let e := nextS p d.2 1
  let n := nextS p e.2 1
  (refSts p n.1.toNat n.2).map fun l => ⟨a.1, b.1, c.1, d.1, e.1, l⟩
def refToldS (s : Str) : Ans × Int :=
  if (openS s).2 = 0 then (match rawTold (openS s).1 with | some a => if answerS a = (s, 0) then (a, 0) else (zeroA, 230) | none => (zeroA, 230)) else (zeroA, 230)
def ansP (p : Ans × Int) : V := .tup [ansV p.1, .int .i64 p.2]

theorem openS_len (s : Str) : (openS s).1.length ≤ s.length := by
  unfold openS; split
  · simp
  · split <;> simp
theorem nextS_lt (p : Str) (r : Int × Int) : 0 ≤ (nextS p r 1).1 ∧ (nextS p r 1).1 < 256 := by
  unfold nextS; split
  · rcases getS_cases p r.1 1 with (h | h) | ⟨_, _, _, _, h⟩
    · rw [h]; simp
    · rw [h]; simp
    · rw [h]; have := beN_take_lt p r.1.toNat 1; simp only [show (1 : Int).toNat = 1 from rfl]; simp at this ⊢; omega
  · simp

theorem ref_told (s : Str) (hs : s.length ≤ 1000000) : PCall Try.prog 19 [.str s] (ansP (refToldS s)) := by
  refine en19 (by simp) (by simp [closedL, V.closed]) ?_
  simp (maxSteps := 1000000) (disch := omega) only [rg, opX, opI, look, nth, setN, outO, binO, intO, strO, argsE, appd, cpyO, slcO, slsO, bndO, lo1, mnxO, bldO, bldV, splice, rd, fpS, lk, isNil, Nat.reduceBEq, Nat.reduceEqDiff, Nat.reduceAdd, Int.reduceEq, Int.reduceLT, Int.reduceLE, Int.reduceToNat, reduceIte, reduceCtorEq, Nat.reduceLeDiff, Nat.reduceLT, Nat.reduceMul, Nat.reduceSub, c19]
  refine ⟨_, ref_open s (by omega), ?_⟩
  have hol := openS_len s
  by_cases c0 : (openS s).2 = 0
  case neg =>
    simp (maxSteps := 1000000) (disch := omega) only [rg, opX, opI, look, nth, setN, outO, binO, intO, strO, argsE, appd, cpyO, slcO, slsO, bndO, lo1, mnxO, bldO, bldV, splice, rd, fpS, lk, isNil, Nat.reduceBEq, Nat.reduceEqDiff, Nat.reduceAdd, Int.reduceEq, Int.reduceLT, Int.reduceLE, Int.reduceToNat, reduceIte, reduceCtorEq, Nat.reduceLeDiff, Nat.reduceLT, Nat.reduceMul, Nat.reduceSub, sV, c0]
    (refine fin_x rfl ?_ ?_ <;> simp [pack, lo, loL, V.closed, closedL, mv_closed, ansP, refToldS, c0, zeroA, ansV, sttsV, mv])
  simp (maxSteps := 1000000) (disch := omega) only [rg, opX, opI, look, nth, setN, outO, binO, intO, strO, argsE, appd, cpyO, slcO, slsO, bndO, lo1, mnxO, bldO, bldV, splice, rd, fpS, lk, isNil, Nat.reduceBEq, Nat.reduceEqDiff, Nat.reduceAdd, Int.reduceEq, Int.reduceLT, Int.reduceLE, Int.reduceToNat, reduceIte, reduceCtorEq, Nat.reduceLeDiff, Nat.reduceLT, Nat.reduceMul, Nat.reduceSub, sV, c0]
  generalize hp : (openS s).1 = p at hol
  refine ⟨_, _, _, _, r_next _ 1 p (0, 0) 2 (by omega) (by simp) (by simp (disch := omega) only [upd_eq, upd_ne, wo_0, wo_1, wo_2, rdV]), ?_⟩
  simp (maxSteps := 1000000) (disch := omega) only [rg, opX, opI, look, nth, setN, outO, binO, intO, strO, argsE, appd, cpyO, slcO, slsO, bndO, lo1, mnxO, bldO, bldV, splice, rd, fpS, lk, isNil, Nat.reduceBEq, Nat.reduceEqDiff, Nat.reduceAdd, Int.reduceEq, Int.reduceLT, Int.reduceLE, Int.reduceToNat, reduceIte, reduceCtorEq, Nat.reduceLeDiff, Nat.reduceLT, Nat.reduceMul, Nat.reduceSub]
  generalize ha : nextS p (0, 0) 2 = a
  refine ⟨_, _, _, _, r_text _ 1 p a.2 (by omega) (by simp) (by simp (disch := omega) only [upd_eq, upd_ne, wo_0, wo_1, wo_2]), ?_⟩
  simp (maxSteps := 1000000) (disch := omega) only [rg, opX, opI, look, nth, setN, outO, binO, intO, strO, argsE, appd, cpyO, slcO, slsO, bndO, lo1, mnxO, bldO, bldV, splice, rd, fpS, lk, isNil, Nat.reduceBEq, Nat.reduceEqDiff, Nat.reduceAdd, Int.reduceEq, Int.reduceLT, Int.reduceLE, Int.reduceToNat, reduceIte, reduceCtorEq, Nat.reduceLeDiff, Nat.reduceLT, Nat.reduceMul, Nat.reduceSub]
  generalize hb : txtS p a.2 = b
  refine ⟨_, _, _, _, r_next _ 1 p b.2 1 (by omega) (by simp) (by simp (disch := omega) only [upd_eq, upd_ne, wo_0, wo_1, wo_2]), ?_⟩
  simp (maxSteps := 1000000) (disch := omega) only [rg, opX, opI, look, nth, setN, outO, binO, intO, strO, argsE, appd, cpyO, slcO, slsO, bndO, lo1, mnxO, bldO, bldV, splice, rd, fpS, lk, isNil, Nat.reduceBEq, Nat.reduceEqDiff, Nat.reduceAdd, Int.reduceEq, Int.reduceLT, Int.reduceLE, Int.reduceToNat, reduceIte, reduceCtorEq, Nat.reduceLeDiff, Nat.reduceLT, Nat.reduceMul, Nat.reduceSub]
  generalize hc : nextS p b.2 1 = c
  refine ⟨_, _, _, _, r_next _ 1 p c.2 6 (by omega) (by simp) (by simp (disch := omega) only [upd_eq, upd_ne, wo_0, wo_1, wo_2]), ?_⟩
  simp (maxSteps := 1000000) (disch := omega) only [rg, opX, opI, look, nth, setN, outO, binO, intO, strO, argsE, appd, cpyO, slcO, slsO, bndO, lo1, mnxO, bldO, bldV, splice, rd, fpS, lk, isNil, Nat.reduceBEq, Nat.reduceEqDiff, Nat.reduceAdd, Int.reduceEq, Int.reduceLT, Int.reduceLE, Int.reduceToNat, reduceIte, reduceCtorEq, Nat.reduceLeDiff, Nat.reduceLT, Nat.reduceMul, Nat.reduceSub]
  generalize hd : nextS p c.2 6 = d
  refine ⟨_, _, _, _, r_next _ 1 p d.2 1 (by omega) (by simp) (by simp (disch := omega) only [upd_eq, upd_ne, wo_0, wo_1, wo_2]), ?_⟩
  simp (maxSteps := 1000000) (disch := omega) only [rg, opX, opI, look, nth, setN, outO, binO, intO, strO, argsE, appd, cpyO, slcO, slsO, bndO, lo1, mnxO, bldO, bldV, splice, rd, fpS, lk, isNil, Nat.reduceBEq, Nat.reduceEqDiff, Nat.reduceAdd, Int.reduceEq, Int.reduceLT, Int.reduceLE, Int.reduceToNat, reduceIte, reduceCtorEq, Nat.reduceLeDiff, Nat.reduceLT, Nat.reduceMul, Nat.reduceSub]
  generalize he : nextS p d.2 1 = e
  refine ⟨_, _, _, _, r_next _ 1 p e.2 1 (by omega) (by simp) (by simp (disch := omega) only [upd_eq, upd_ne, wo_0, wo_1, wo_2]), ?_⟩
  have hn1 := nextS_lt p e.2
  simp (maxSteps := 1000000) (disch := omega) only [rg, opX, opI, look, nth, setN, outO, binO, intO, strO, argsE, appd, cpyO, slcO, slsO, bndO, lo1, mnxO, bldO, bldV, splice, rd, fpS, lk, isNil, Nat.reduceBEq, Nat.reduceEqDiff, Nat.reduceAdd, Int.reduceEq, Int.reduceLT, Int.reduceLE, Int.reduceToNat, reduceIte, reduceCtorEq, Nat.reduceLeDiff, Nat.reduceLT, Nat.reduceMul, Nat.reduceSub]
  generalize hn : nextS p e.2 1 = n at hn1
  have hraw : rawTold p = (refSts p n.1.toNat n.2).map fun l => ⟨a.1, b.1, c.1, d.1, e.1, l⟩ := by simp only [rawTold, ha, hb, hc, hd, he, hn]
  obtain ⟨N, hN⟩ : ∃ N : Nat, n.1 = N := ⟨n.1.toNat, by omega⟩
  rw [hN] at hraw hn1 ⊢
  rw [Int.toNat_natCast] at hraw
  refine x_it N (fun i σ H => 3 ≤ H.n ∧ ∃ out r v, H.m 0 = some (.arr 6 [.agg [.int .i64 0, .str [], .int .i64 0, .int .i64 0, .int .i64 0, .fsl .nil 5 []]]) ∧ H.m 1 = some (rdV p r) ∧ H.m 2 = some (.arr 6 [.agg [.int .i64 a.1, .str b.1, .int .i64 c.1, .int .i64 d.1, .int .i64 e.1, v]]) ∧
    out.length = i ∧ refSts p N n.2 = (refSts p (N - i) r).map (out ++ ·) ∧ (∀ st ∈ out, okSt st) ∧ σ = [(0, .str s), (2, .ptr 0 0 0), (6, .ptr 1 0 0), (7, .ptr 2 0 0), (8, .int .i64 N), (9, .int .i64 i)] ∧
    ((v = .fsl .nil 5 [] ∧ out = []) ∨ ∃ id, 3 ≤ id ∧ id < H.n ∧ v = .sl id 0 out.length ∧ H.m id = some (.arr 5 (mv sttV out)))) ?_ ?_
  · exact ⟨Nat.le_refl 3, [], n.2, _, (by simp (disch := omega) only [upd_eq, upd_ne, wo_0, wo_1, wo_2]), (by simp (disch := omega) only [upd_eq, upd_ne, wo_0, wo_1, wo_2]), (by simp (disch := omega) only [upd_eq, upd_ne, wo_0, wo_1, wo_2]), rfl, by simp, by simp, rfl, .inl ⟨rfl, rfl⟩⟩
  rintro T i σ ⟨q, m⟩ hi ⟨hq, out, r, v, e0, e1, e2, hol', hrs, hok, rfl, hv⟩ hN2 hX hR
  simp only at hq e0 e1 e2 hv
  simp (maxSteps := 1000000) (disch := omega) only [rg, opX, opI, look, nth, setN, outO, binO, intO, strO, argsE, appd, cpyO, slcO, slsO, bndO, lo1, mnxO, bldO, bldV, splice, rd, fpS, lk, isNil, Nat.reduceBEq, Nat.reduceEqDiff, Nat.reduceAdd, Int.reduceEq, Int.reduceLT, Int.reduceLE, Int.reduceToNat, reduceIte, reduceCtorEq, Nat.reduceLeDiff, Nat.reduceLT, Nat.reduceMul, Nat.reduceSub]
  refine ⟨fun h => ?_, fun h => ?_⟩
  · have i1 : i < N := by omega
    rw [show N - i = (N - (i + 1)) + 1 by omega, refSts] at hrs
    refine ⟨_, _, _, _, r_text _ 1 p r (by omega) (by show 1 < q; omega) e1, ?_⟩
    have htl : (txtS p r).1.length ≤ 1000000 := by
      unfold txtS; split
      · exact Nat.le_trans (cutS_len _ _) (by omega)
      · simp
    simp (maxSteps := 1000000) (disch := omega) only [rg, opX, opI, look, nth, setN, outO, binO, intO, strO, argsE, appd, cpyO, slcO, slsO, bndO, lo1, mnxO, bldO, bldV, splice, rd, fpS, lk, isNil, Nat.reduceBEq, Nat.reduceEqDiff, Nat.reduceAdd, Int.reduceEq, Int.reduceLT, Int.reduceLE, Int.reduceToNat, reduceIte, reduceCtorEq, Nat.reduceLeDiff, Nat.reduceLT, Nat.reduceMul, Nat.reduceSub]
    refine ⟨_, ref_stget (txtS p r).1 (by omega), ?_⟩
    have hq0 : 0 ≠ q := by omega
    have hq1 : 1 ≠ q := by omega
    have hq2 : 2 ≠ q := by omega
    by_cases c1 : (stGetS (txtS p r).1).2 = 0
    · rw [if_pos c1] at hrs
      have hst := stands_ok (stGet_ok c1)
      obtain ⟨st, hg⟩ : ∃ st, stGetS (txtS p r).1 = (st, 0) := ⟨(stGetS (txtS p r).1).1, Prod.ext rfl c1⟩
      rw [hg] at hrs hst ⊢
      have hrs2 : refSts p N n.2 = (refSts p (N - (i + 1)) (txtS p r).2).map ((out ++ [st]) ++ ·) := by
        rw [hrs, Option.map_map]; congr 1; funext l; simp
      have hok2 : ∀ x ∈ out ++ [st], okSt x := fun x hx => by
        rcases List.mem_append.1 hx with hx | hx
        · exact hok x hx
        · simp at hx; subst hx; exact hst
      have hl2 : (out ++ [st]).length = i + 1 := by simp [hol']
      have hrow : mv sttV out ++ [.agg [.int .i64 st.is, .int .i64 st.tried, .int .i64 st.due, .int .i64 st.token, .str st.result]] = mv sttV (out ++ [st]) := mv_app1
      rcases hv with ⟨rfl, rfl⟩ | ⟨id, g1, g2, rfl, g3⟩
      · simp (maxSteps := 1000000) (disch := omega) only [rg, opX, opI, look, nth, setN, outO, binO, intO, strO, argsE, appd, cpyO, slcO, slsO, bndO, lo1, mnxO, bldO, bldV, splice, rd, fpS, lk, isNil, Nat.reduceBEq, Nat.reduceEqDiff, Nat.reduceAdd, Int.reduceEq, Int.reduceLT, Int.reduceLE, Int.reduceToNat, reduceIte, reduceCtorEq, Nat.reduceLeDiff, Nat.reduceLT, Nat.reduceMul, Nat.reduceSub, stV, sttV, e2, appO]
        refine hN2 _ _ i1 ?_
        refine ⟨by show 3 ≤ q + 2; omega, [] ++ [st], (txtS p r).2, .sl (q + 1) 0 1, (by simp (disch := omega) only [upd_eq, upd_ne, wo_0, wo_1, wo_2, e0]), (by simp (disch := omega) only [upd_eq, upd_ne, wo_0, wo_1, wo_2]), (by simp (disch := omega) only [upd_eq, upd_ne, wo_0, wo_1, wo_2]), hl2, hrs2, hok2, rfl, .inr ⟨q + 1, by omega, by show q + 1 < q + 2; omega, rfl, ?_⟩⟩
        rw [← hrow]
        simp [upd, mv]
        try omega
      · have hid : id ≠ q := by omega
        have hid1 : id ≠ 1 := by omega
        have ht3 : List.take out.length (mv sttV out) = mv sttV out := List.take_of_length_le (by rw [mv_len]; omega)
        simp (maxSteps := 1000000) (disch := omega) only [rg, opX, opI, look, nth, setN, outO, binO, intO, strO, argsE, appd, cpyO, slcO, slsO, bndO, lo1, mnxO, bldO, bldV, splice, rd, fpS, lk, isNil, Nat.reduceBEq, Nat.reduceEqDiff, Nat.reduceAdd, Int.reduceEq, Int.reduceLT, Int.reduceLE, Int.reduceToNat, reduceIte, reduceCtorEq, Nat.reduceLeDiff, Nat.reduceLT, Nat.reduceMul, Nat.reduceSub, stV, sttV, e2, appO, g3, ht3, hrow]
        refine ⟨⟨by omega, by omega⟩, ?_⟩
        refine hN2 _ _ i1 ?_
        refine ⟨by show 3 ≤ q + 2; omega, out ++ [st], (txtS p r).2, .sl (q + 1) 0 (out.length + 1), (by simp (disch := omega) only [upd_eq, upd_ne, wo_0, wo_1, wo_2, e0]), (by simp (disch := omega) only [upd_eq, upd_ne, wo_0, wo_1, wo_2]), (by simp (disch := omega) only [upd_eq, upd_ne, wo_0, wo_1, wo_2]), hl2, hrs2, hok2, rfl, .inr ⟨q + 1, by omega, by show q + 1 < q + 2; omega, by rw [hl2, hol'], (by simp (disch := omega) only [upd_eq, upd_ne, wo_0, wo_1, wo_2])⟩⟩
    · rw [if_neg c1] at hrs
      simp (maxSteps := 1000000) (disch := omega) only [rg, opX, opI, look, nth, setN, outO, binO, intO, strO, argsE, appd, cpyO, slcO, slsO, bndO, lo1, mnxO, bldO, bldV, splice, rd, fpS, lk, isNil, Nat.reduceBEq, Nat.reduceEqDiff, Nat.reduceAdd, Int.reduceEq, Int.reduceLT, Int.reduceLE, Int.reduceToNat, reduceIte, reduceCtorEq, Nat.reduceLeDiff, Nat.reduceLT, Nat.reduceMul, Nat.reduceSub, stV, c1, sttV, e0]
      refine hR _ _ ?_
      simp (maxSteps := 1000000) (disch := omega) only [rg, opX, opI, look, nth, setN, outO, binO, intO, strO, argsE, appd, cpyO, slcO, slsO, bndO, lo1, mnxO, bldO, bldV, splice, rd, fpS, lk, isNil, Nat.reduceBEq, Nat.reduceEqDiff, Nat.reduceAdd, Int.reduceEq, Int.reduceLT, Int.reduceLE, Int.reduceToNat, reduceIte, reduceCtorEq, Nat.reduceLeDiff, Nat.reduceLT, Nat.reduceMul, Nat.reduceSub]
      have hf : rawTold p = none := by rw [hraw, hrs]; rfl
      (refine fin_x rfl ?_ ?_ <;> simp [pack, lo, loL, V.closed, closedL, mv_closed, ansP, refToldS, c0, hp, hf, zeroA, ansV, sttsV, mv])
  · obtain rfl : i = N := by omega
    have hout : rawTold p = some ⟨a.1, b.1, c.1, d.1, e.1, out⟩ := by rw [hraw, hrs, Nat.sub_self]; simp [refSts]
    have hbl : b.1.length ≤ 1000000 := by
      rw [← hb]; unfold txtS; split
      · exact Nat.le_trans (cutS_len _ _) (by omega)
      · simp
    have kan := ref_answer ⟨a.1, b.1, c.1, d.1, e.1, out⟩ ⟨hbl, by simp only; omega, hok⟩
    refine hX _ _ _ ?_
    simp (maxSteps := 1000000) (disch := omega) only [rg, opX, opI, look, nth, setN, outO, binO, intO, strO, argsE, appd, cpyO, slcO, slsO, bndO, lo1, mnxO, bldO, bldV, splice, rd, fpS, lk, isNil, Nat.reduceBEq, Nat.reduceEqDiff, Nat.reduceAdd, Int.reduceEq, Int.reduceLT, Int.reduceLE, Int.reduceToNat, reduceIte, reduceCtorEq, Nat.reduceLeDiff, Nat.reduceLT, Nat.reduceMul, Nat.reduceSub]
    generalize hans : answerS ⟨a.1, b.1, c.1, d.1, e.1, out⟩ = w at kan
    have hfin : refToldS s = if w = (s, 0) then (⟨a.1, b.1, c.1, d.1, e.1, out⟩, 0) else (zeroA, 230) := by
      unfold refToldS; rw [if_pos c0, hp, hout]; simp only; rw [hans]
    obtain ⟨w1, w2⟩ := w
    rcases hv with ⟨rfl, rfl⟩ | ⟨id, g1, g2, rfl, g3⟩
    · refine x_frz0 ?_
      simp (maxSteps := 1000000) (disch := omega) only [rg, opX, opI, look, nth, setN, outO, binO, intO, strO, argsE, appd, cpyO, slcO, slsO, bndO, lo1, mnxO, bldO, bldV, splice, rd, fpS, lk, isNil, Nat.reduceBEq, Nat.reduceEqDiff, Nat.reduceAdd, Int.reduceEq, Int.reduceLT, Int.reduceLE, Int.reduceToNat, reduceIte, reduceCtorEq, Nat.reduceLeDiff, Nat.reduceLT, Nat.reduceMul, Nat.reduceSub, e2]
      refine ⟨_, kan.of_eq (by simp [ansV, sttsV, loL, lo, mv]), ?_⟩
      by_cases k1 : w2 = 0
      · by_cases k2 : w1 = s
        · simp (maxSteps := 1000000) (disch := omega) only [rg, opX, opI, look, nth, setN, outO, binO, intO, strO, argsE, appd, cpyO, slcO, slsO, bndO, lo1, mnxO, bldO, bldV, splice, rd, fpS, lk, isNil, Nat.reduceBEq, Nat.reduceEqDiff, Nat.reduceAdd, Int.reduceEq, Int.reduceLT, Int.reduceLE, Int.reduceToNat, reduceIte, reduceCtorEq, Nat.reduceLeDiff, Nat.reduceLT, Nat.reduceMul, Nat.reduceSub, sV, e0, e2, k1, k2]
          (refine fin_x rfl ?_ ?_ <;> simp [pack, lo, loL, V.closed, closedL, mv_closed, ansP, hfin, k1, k2, ansV, sttsV, mv])
        · simp (maxSteps := 1000000) (disch := omega) only [rg, opX, opI, look, nth, setN, outO, binO, intO, strO, argsE, appd, cpyO, slcO, slsO, bndO, lo1, mnxO, bldO, bldV, splice, rd, fpS, lk, isNil, Nat.reduceBEq, Nat.reduceEqDiff, Nat.reduceAdd, Int.reduceEq, Int.reduceLT, Int.reduceLE, Int.reduceToNat, reduceIte, reduceCtorEq, Nat.reduceLeDiff, Nat.reduceLT, Nat.reduceMul, Nat.reduceSub, sV, e0, e2, k1, k2]
          (refine fin_x rfl ?_ ?_ <;> simp [pack, lo, loL, V.closed, closedL, mv_closed, ansP, hfin, k1, k2, zeroA, ansV, sttsV, mv])
      · simp (maxSteps := 1000000) (disch := omega) only [rg, opX, opI, look, nth, setN, outO, binO, intO, strO, argsE, appd, cpyO, slcO, slsO, bndO, lo1, mnxO, bldO, bldV, splice, rd, fpS, lk, isNil, Nat.reduceBEq, Nat.reduceEqDiff, Nat.reduceAdd, Int.reduceEq, Int.reduceLT, Int.reduceLE, Int.reduceToNat, reduceIte, reduceCtorEq, Nat.reduceLeDiff, Nat.reduceLT, Nat.reduceMul, Nat.reduceSub, sV, e0, e2, k1]
        (refine fin_x rfl ?_ ?_ <;> simp [pack, lo, loL, V.closed, closedL, mv_closed, ansP, hfin, k1, zeroA, ansV, sttsV, mv])
    · have e2' := frzH_get (fz := [id]) e2 (by simp; omega)
      rw [List.map_cons, List.map_nil, frz_ans g3 (by simp) (by rw [mv_len]) (mv_closed sttV_closed)] at e2'
      have e0' := frzH_get (fz := [id]) e0 (by simp; omega)
      rw [List.map_cons, List.map_nil, frz_c (by simp [V.closed, closedL])] at e0'
      refine x_frzH [id] ?_
      simp only [] at e2' e0' ⊢
      generalize frzH [id] m = m' at e2' e0'
      simp (maxSteps := 1000000) (disch := omega) only [rg, opX, opI, look, nth, setN, outO, binO, intO, strO, argsE, appd, cpyO, slcO, slsO, bndO, lo1, mnxO, bldO, bldV, splice, rd, fpS, lk, isNil, Nat.reduceBEq, Nat.reduceEqDiff, Nat.reduceAdd, Int.reduceEq, Int.reduceLT, Int.reduceLE, Int.reduceToNat, reduceIte, reduceCtorEq, Nat.reduceLeDiff, Nat.reduceLT, Nat.reduceMul, Nat.reduceSub, e2']
      refine ⟨_, kan.of_eq (by simp [ansV, sttsV, loL, lo, mv_lo sttV_lo]), ?_⟩
      by_cases k1 : w2 = 0
      · by_cases k2 : w1 = s
        · simp (maxSteps := 1000000) (disch := omega) only [rg, opX, opI, look, nth, setN, outO, binO, intO, strO, argsE, appd, cpyO, slcO, slsO, bndO, lo1, mnxO, bldO, bldV, splice, rd, fpS, lk, isNil, Nat.reduceBEq, Nat.reduceEqDiff, Nat.reduceAdd, Int.reduceEq, Int.reduceLT, Int.reduceLE, Int.reduceToNat, reduceIte, reduceCtorEq, Nat.reduceLeDiff, Nat.reduceLT, Nat.reduceMul, Nat.reduceSub, sV, e0', e2', k1, k2]
          (refine fin_x rfl ?_ ?_ <;> simp [pack, lo, loL, V.closed, closedL, mv_closed, ansP, hfin, k1, k2, ansV, sttsV, mv_closed sttV_closed, mv_lo sttV_lo])
        · simp (maxSteps := 1000000) (disch := omega) only [rg, opX, opI, look, nth, setN, outO, binO, intO, strO, argsE, appd, cpyO, slcO, slsO, bndO, lo1, mnxO, bldO, bldV, splice, rd, fpS, lk, isNil, Nat.reduceBEq, Nat.reduceEqDiff, Nat.reduceAdd, Int.reduceEq, Int.reduceLT, Int.reduceLE, Int.reduceToNat, reduceIte, reduceCtorEq, Nat.reduceLeDiff, Nat.reduceLT, Nat.reduceMul, Nat.reduceSub, sV, e0', e2', k1, k2]
          (refine fin_x rfl ?_ ?_ <;> simp [pack, lo, loL, V.closed, closedL, mv_closed, ansP, hfin, k1, k2, zeroA, ansV, sttsV, mv])
      · simp (maxSteps := 1000000) (disch := omega) only [rg, opX, opI, look, nth, setN, outO, binO, intO, strO, argsE, appd, cpyO, slcO, slsO, bndO, lo1, mnxO, bldO, bldV, splice, rd, fpS, lk, isNil, Nat.reduceBEq, Nat.reduceEqDiff, Nat.reduceAdd, Int.reduceEq, Int.reduceLT, Int.reduceLE, Int.reduceToNat, reduceIte, reduceCtorEq, Nat.reduceLeDiff, Nat.reduceLT, Nat.reduceMul, Nat.reduceSub, sV, e0', e2', k1]
        (refine fin_x rfl ?_ ?_ <;> simp [pack, lo, loL, V.closed, closedL, mv_closed, ansP, hfin, k1, zeroA, ansV, sttsV, mv])

end Go.Proofs.Ytjlpmndipceboaa.Ev
end
section
set_option linter.unusedSimpArgs false
set_option linter.unusedVariables false
set_option maxRecDepth 10000
namespace Go.Proofs.Ytjlpmndipceboaa.Ev
open Go

def fSts (p : Str) : Nat → Int × Bool → List Stt × Int × Bool
  | 0, r => ([], r)
  | k + 1, r => if r.2 = true then ([], r) else
    let q := fSts p k ((txtF p r).2.1, (txtF p r).2.2 || !decide ((stGetS (txtF p r).1).2 = 0))
    ((stGetS (txtF p r).1).1 :: q.1, q.2)
def rawF (p : Str) (bad : Bool) : Ans × Int × Bool :=
  let a := numF p (0, bad) 2
  let b := txtF p a.2
  let c := numF p b.2 1
  let d := numF p c.2 6
  let e := numF p d.2 1
  let n := numF p e.2 1
  let q := fSts p n.1.toNat n.2
  (⟨a.1, b.1, c.1, d.1, e.1, q.1⟩, q.2)
def toldS (s : Str) : Ans × Int :=
  let q := rawF (openS s).1 (!decide ((openS s).2 = 0))
  if q.2.2 = true ∨ q.2.1 ≠ (openS s).1.length then (zeroA, 230) else (q.1, 0)

theorem numF_lt (p : Str) (r : Int × Bool) : 0 ≤ (numF p r 1).1 ∧ (numF p r 1).1 < 256 := by
  unfold numF; split
  · have := nextS_lt p (r.1, 0); simpa [nextS] using this
  · simp
theorem txtF_len (p : Str) (r : Int × Bool) : (txtF p r).1.length ≤ p.length := by
  unfold txtF; split
  · exact cutS_len _ _
  · simp
theorem fSts_bad (p : Str) (k : Nat) (r : Int × Bool) (h : r.2 = true) : fSts p k r = ([], r) := by
  cases k with
  | zero => rfl
  | succ k => rw [fSts, if_pos h]

theorem frame_told (s : Str) (hs : s.length ≤ 1000000) : PCall Try.prog 18 [.str s] (ansP (toldS s)) := by
  refine en18 (by simp) (by simp [closedL, V.closed]) ?_
  simp (maxSteps := 1000000) (disch := omega) only [rg, opX, opI, look, nth, setN, outO, binO, intO, strO, argsE, appd, cpyO, slcO, slsO, bndO, lo1, mnxO, bldO, bldV, splice, rd, fpS, lk, isNil, Nat.reduceBEq, Nat.reduceEqDiff, Nat.reduceAdd, Int.reduceEq, Int.reduceLT, Int.reduceLE, Int.reduceToNat, reduceIte, reduceCtorEq, Nat.reduceLeDiff, Nat.reduceLT, Nat.reduceMul, Nat.reduceSub, c18]
  refine ⟨_, _, _, _, f_read _ s (by omega), ?_⟩
  have hol := openS_len s
  generalize hp : (openS s).1 = p at hol
  generalize hbad : (!decide ((openS s).2 = 0)) = bad
  simp (maxSteps := 1000000) (disch := omega) only [rg, opX, opI, look, nth, setN, outO, binO, intO, strO, argsE, appd, cpyO, slcO, slsO, bndO, lo1, mnxO, bldO, bldV, splice, rd, fpS, lk, isNil, Nat.reduceBEq, Nat.reduceEqDiff, Nat.reduceAdd, Int.reduceEq, Int.reduceLT, Int.reduceLE, Int.reduceToNat, reduceIte, reduceCtorEq, Nat.reduceLeDiff, Nat.reduceLT, Nat.reduceMul, Nat.reduceSub]
  refine ⟨_, _, _, _, f_num _ 1 p (0, bad) 2 (by omega) (by simp) (by simp (disch := omega) only [upd_eq, upd_ne, wo_0, wo_1, wo_2]), ?_⟩
  simp (maxSteps := 1000000) (disch := omega) only [rg, opX, opI, look, nth, setN, outO, binO, intO, strO, argsE, appd, cpyO, slcO, slsO, bndO, lo1, mnxO, bldO, bldV, splice, rd, fpS, lk, isNil, Nat.reduceBEq, Nat.reduceEqDiff, Nat.reduceAdd, Int.reduceEq, Int.reduceLT, Int.reduceLE, Int.reduceToNat, reduceIte, reduceCtorEq, Nat.reduceLeDiff, Nat.reduceLT, Nat.reduceMul, Nat.reduceSub]
  generalize ha : numF p (0, bad) 2 = a
  refine ⟨_, _, _, _, f_text _ 1 p a.2 (by omega) (by simp) (by simp (disch := omega) only [upd_eq, upd_ne, wo_0, wo_1, wo_2]), ?_⟩
  simp (maxSteps := 1000000) (disch := omega) only [rg, opX, opI, look, nth, setN, outO, binO, intO, strO, argsE, appd, cpyO, slcO, slsO, bndO, lo1, mnxO, bldO, bldV, splice, rd, fpS, lk, isNil, Nat.reduceBEq, Nat.reduceEqDiff, Nat.reduceAdd, Int.reduceEq, Int.reduceLT, Int.reduceLE, Int.reduceToNat, reduceIte, reduceCtorEq, Nat.reduceLeDiff, Nat.reduceLT, Nat.reduceMul, Nat.reduceSub]
  generalize hb : txtF p a.2 = b
  refine ⟨_, _, _, _, f_num _ 1 p b.2 1 (by omega) (by simp) (by simp (disch := omega) only [upd_eq, upd_ne, wo_0, wo_1, wo_2]), ?_⟩
  simp (maxSteps := 1000000) (disch := omega) only [rg, opX, opI, look, nth, setN, outO, binO, intO, strO, argsE, appd, cpyO, slcO, slsO, bndO, lo1, mnxO, bldO, bldV, splice, rd, fpS, lk, isNil, Nat.reduceBEq, Nat.reduceEqDiff, Nat.reduceAdd, Int.reduceEq, Int.reduceLT, Int.reduceLE, Int.reduceToNat, reduceIte, reduceCtorEq, Nat.reduceLeDiff, Nat.reduceLT, Nat.reduceMul, Nat.reduceSub]
  generalize hc : numF p b.2 1 = c
  refine ⟨_, _, _, _, f_num _ 1 p c.2 6 (by omega) (by simp) (by simp (disch := omega) only [upd_eq, upd_ne, wo_0, wo_1, wo_2]), ?_⟩
  simp (maxSteps := 1000000) (disch := omega) only [rg, opX, opI, look, nth, setN, outO, binO, intO, strO, argsE, appd, cpyO, slcO, slsO, bndO, lo1, mnxO, bldO, bldV, splice, rd, fpS, lk, isNil, Nat.reduceBEq, Nat.reduceEqDiff, Nat.reduceAdd, Int.reduceEq, Int.reduceLT, Int.reduceLE, Int.reduceToNat, reduceIte, reduceCtorEq, Nat.reduceLeDiff, Nat.reduceLT, Nat.reduceMul, Nat.reduceSub]
  generalize hd : numF p c.2 6 = d
  refine ⟨_, _, _, _, f_num _ 1 p d.2 1 (by omega) (by simp) (by simp (disch := omega) only [upd_eq, upd_ne, wo_0, wo_1, wo_2]), ?_⟩
  simp (maxSteps := 1000000) (disch := omega) only [rg, opX, opI, look, nth, setN, outO, binO, intO, strO, argsE, appd, cpyO, slcO, slsO, bndO, lo1, mnxO, bldO, bldV, splice, rd, fpS, lk, isNil, Nat.reduceBEq, Nat.reduceEqDiff, Nat.reduceAdd, Int.reduceEq, Int.reduceLT, Int.reduceLE, Int.reduceToNat, reduceIte, reduceCtorEq, Nat.reduceLeDiff, Nat.reduceLT, Nat.reduceMul, Nat.reduceSub]
  generalize he : numF p d.2 1 = e
  refine ⟨_, _, _, _, f_num _ 1 p e.2 1 (by omega) (by simp) (by simp (disch := omega) only [upd_eq, upd_ne, wo_0, wo_1, wo_2]), ?_⟩
  have hn1 := numF_lt p e.2
  simp (maxSteps := 1000000) (disch := omega) only [rg, opX, opI, look, nth, setN, outO, binO, intO, strO, argsE, appd, cpyO, slcO, slsO, bndO, lo1, mnxO, bldO, bldV, splice, rd, fpS, lk, isNil, Nat.reduceBEq, Nat.reduceEqDiff, Nat.reduceAdd, Int.reduceEq, Int.reduceLT, Int.reduceLE, Int.reduceToNat, reduceIte, reduceCtorEq, Nat.reduceLeDiff, Nat.reduceLT, Nat.reduceMul, Nat.reduceSub]
  generalize hn : numF p e.2 1 = n at hn1
  have hraw : rawF p bad = (⟨a.1, b.1, c.1, d.1, e.1, (fSts p n.1.toNat n.2).1⟩, (fSts p n.1.toNat n.2).2) := by simp only [rawF, ha, hb, hc, hd, he, hn]
  obtain ⟨N, hN⟩ : ∃ N : Nat, n.1 = N := ⟨n.1.toNat, by omega⟩
  rw [hN] at hraw hn1 ⊢
  rw [Int.toNat_natCast] at hraw
  refine x_it N (fun i σ H => 3 ≤ H.n ∧ ∃ out r v, H.m 0 = some (.arr 6 [.agg [.int .i64 0, .str [], .int .i64 0, .int .i64 0, .int .i64 0, .fsl .nil 5 []]]) ∧ H.m 1 = some (fdV p r) ∧ H.m 2 = some (.arr 6 [.agg [.int .i64 a.1, .str b.1, .int .i64 c.1, .int .i64 d.1, .int .i64 e.1, v]]) ∧
    out.length = i ∧ fSts p N n.2 = (out ++ (fSts p (N - i) r).1, (fSts p (N - i) r).2) ∧ σ = [(2, .ptr 0 0 0), (4, .ptr 1 0 0), (5, .ptr 2 0 0), (6, .int .i64 (N - i : Nat))] ∧
    ((v = .fsl .nil 5 [] ∧ out = []) ∨ ∃ id, 3 ≤ id ∧ id < H.n ∧ v = .sl id 0 out.length ∧ H.m id = some (.arr 5 (mv sttV out)))) ?_ ?_
  · exact ⟨Nat.le_refl 3, [], n.2, _, (by simp (disch := omega) only [upd_eq, upd_ne, wo_0, wo_1, wo_2]), (by simp (disch := omega) only [upd_eq, upd_ne, wo_0, wo_1, wo_2]), (by simp (disch := omega) only [upd_eq, upd_ne, wo_0, wo_1, wo_2]), rfl, by simp, rfl, .inl ⟨rfl, rfl⟩⟩
  rintro T i σ ⟨q, m⟩ hi ⟨hq, out, r, v, e0, e1, e2, hol', hrs, rfl, hv⟩ hN2 hX hR
  simp only at hq e0 e1 e2 hv
  have e1' := e1
  unfold fdV at e1'
  -- the end, once nothing more is read
  have stop : fSts p (N - i) r = ([], r) → T (.exit 0) [(2, .ptr 0 0 0), (4, .ptr 1 0 0), (5, .ptr 2 0 0), (6, .int .i64 (N - i : Nat)), (36, .bool false)] ⟨q, m⟩ := fun hz => by
    rw [hz, List.append_nil] at hrs
    rw [hrs] at hraw
    have htS : toldS s = if r.2 = true ∨ r.1 ≠ p.length then (zeroA, 230) else (⟨a.1, b.1, c.1, d.1, e.1, out⟩, 0) := by
      unfold toldS; simp only [hp, hbad, hraw]
    refine hX _ _ _ ?_
    simp (maxSteps := 1000000) (disch := omega) only [rg, opX, opI, look, nth, setN, outO, binO, intO, strO, argsE, appd, cpyO, slcO, slsO, bndO, lo1, mnxO, bldO, bldV, splice, rd, fpS, lk, isNil, Nat.reduceBEq, Nat.reduceEqDiff, Nat.reduceAdd, Int.reduceEq, Int.reduceLT, Int.reduceLE, Int.reduceToNat, reduceIte, reduceCtorEq, Nat.reduceLeDiff, Nat.reduceLT, Nat.reduceMul, Nat.reduceSub]
    rcases hv with ⟨rfl, rfl⟩ | ⟨id, g1, g2, rfl, g3⟩
    · refine x_frz0 ?_
      cases k1 : r.2 with
      | true =>
        simp (maxSteps := 1000000) (disch := omega) only [rg, opX, opI, look, nth, setN, outO, binO, intO, strO, argsE, appd, cpyO, slcO, slsO, bndO, lo1, mnxO, bldO, bldV, splice, rd, fpS, lk, isNil, Nat.reduceBEq, Nat.reduceEqDiff, Nat.reduceAdd, Int.reduceEq, Int.reduceLT, Int.reduceLE, Int.reduceToNat, reduceIte, reduceCtorEq, Nat.reduceLeDiff, Nat.reduceLT, Nat.reduceMul, Nat.reduceSub, e0, e1', e2, k1]
        (refine fin_x rfl ?_ ?_ <;> simp [pack, lo, loL, V.closed, closedL, mv_closed, ansP, htS, k1, zeroA, ansV, sttsV, mv])
      | false =>
        by_cases k2 : r.1 = p.length
        · simp (maxSteps := 1000000) (disch := omega) only [rg, opX, opI, look, nth, setN, outO, binO, intO, strO, argsE, appd, cpyO, slcO, slsO, bndO, lo1, mnxO, bldO, bldV, splice, rd, fpS, lk, isNil, Nat.reduceBEq, Nat.reduceEqDiff, Nat.reduceAdd, Int.reduceEq, Int.reduceLT, Int.reduceLE, Int.reduceToNat, reduceIte, reduceCtorEq, Nat.reduceLeDiff, Nat.reduceLT, Nat.reduceMul, Nat.reduceSub, e0, e1', e2, k1, k2]
          (refine fin_x rfl ?_ ?_ <;> simp [pack, lo, loL, V.closed, closedL, mv_closed, ansP, htS, k1, k2, ansV, sttsV, mv])
        · simp (maxSteps := 1000000) (disch := omega) only [rg, opX, opI, look, nth, setN, outO, binO, intO, strO, argsE, appd, cpyO, slcO, slsO, bndO, lo1, mnxO, bldO, bldV, splice, rd, fpS, lk, isNil, Nat.reduceBEq, Nat.reduceEqDiff, Nat.reduceAdd, Int.reduceEq, Int.reduceLT, Int.reduceLE, Int.reduceToNat, reduceIte, reduceCtorEq, Nat.reduceLeDiff, Nat.reduceLT, Nat.reduceMul, Nat.reduceSub, e0, e1', e2, k1, k2]
          (refine fin_x rfl ?_ ?_ <;> simp [pack, lo, loL, V.closed, closedL, mv_closed, ansP, htS, k1, k2, zeroA, ansV, sttsV, mv])
    · have e2' := frzH_get (fz := [id]) e2 (by simp; omega)
      rw [List.map_cons, List.map_nil, frz_ans g3 (by simp) (by rw [mv_len]) (mv_closed sttV_closed)] at e2'
      have e0' := frzH_get (fz := [id]) e0 (by simp; omega)
      rw [List.map_cons, List.map_nil, frz_c (by simp [V.closed, closedL])] at e0'
      have e1'' := frzH_get (fz := [id]) e1' (by simp; omega)
      rw [List.map_cons, List.map_nil, frz_c (by simp [V.closed, closedL])] at e1''
      refine x_frzH [id] ?_
      simp only [] at e2' e0' e1'' ⊢
      generalize frzH [id] m = m' at e2' e0' e1''
      cases k1 : r.2 with
      | true =>
        simp (maxSteps := 1000000) (disch := omega) only [rg, opX, opI, look, nth, setN, outO, binO, intO, strO, argsE, appd, cpyO, slcO, slsO, bndO, lo1, mnxO, bldO, bldV, splice, rd, fpS, lk, isNil, Nat.reduceBEq, Nat.reduceEqDiff, Nat.reduceAdd, Int.reduceEq, Int.reduceLT, Int.reduceLE, Int.reduceToNat, reduceIte, reduceCtorEq, Nat.reduceLeDiff, Nat.reduceLT, Nat.reduceMul, Nat.reduceSub, e0', e1'', e2', k1]
        (refine fin_x rfl ?_ ?_ <;> simp [pack, lo, loL, V.closed, closedL, mv_closed, ansP, htS, k1, zeroA, ansV, sttsV, mv])
      | false =>
        by_cases k2 : r.1 = p.length
        · simp (maxSteps := 1000000) (disch := omega) only [rg, opX, opI, look, nth, setN, outO, binO, intO, strO, argsE, appd, cpyO, slcO, slsO, bndO, lo1, mnxO, bldO, bldV, splice, rd, fpS, lk, isNil, Nat.reduceBEq, Nat.reduceEqDiff, Nat.reduceAdd, Int.reduceEq, Int.reduceLT, Int.reduceLE, Int.reduceToNat, reduceIte, reduceCtorEq, Nat.reduceLeDiff, Nat.reduceLT, Nat.reduceMul, Nat.reduceSub, e0', e1'', e2', k1, k2]
          (refine fin_x rfl ?_ ?_ <;> simp [pack, lo, loL, V.closed, closedL, mv_closed, ansP, htS, k1, k2, ansV, sttsV, mv_closed sttV_closed, mv_lo sttV_lo])
        · simp (maxSteps := 1000000) (disch := omega) only [rg, opX, opI, look, nth, setN, outO, binO, intO, strO, argsE, appd, cpyO, slcO, slsO, bndO, lo1, mnxO, bldO, bldV, splice, rd, fpS, lk, isNil, Nat.reduceBEq, Nat.reduceEqDiff, Nat.reduceAdd, Int.reduceEq, Int.reduceLT, Int.reduceLE, Int.reduceToNat, reduceIte, reduceCtorEq, Nat.reduceLeDiff, Nat.reduceLT, Nat.reduceMul, Nat.reduceSub, e0', e1'', e2', k1, k2]
          (refine fin_x rfl ?_ ?_ <;> simp [pack, lo, loL, V.closed, closedL, mv_closed, ansP, htS, k1, k2, zeroA, ansV, sttsV, mv])
  rcases Nat.lt_or_ge i N with i1 | i1
  · obtain ⟨k, hk⟩ : ∃ k, N - i = k + 1 := ⟨N - i - 1, by omega⟩
    have hpos : (0 : Int) < (k + 1 : Nat) := by omega
    rw [hk] at hrs stop ⊢
    cases hb2 : r.2 with
    | true =>
      have hstop := stop (fSts_bad p _ r hb2)
      simp (maxSteps := 1000000) (disch := omega) only [rg, opX, opI, look, nth, setN, outO, binO, intO, strO, argsE, appd, cpyO, slcO, slsO, bndO, lo1, mnxO, bldO, bldV, splice, rd, fpS, lk, isNil, Nat.reduceBEq, Nat.reduceEqDiff, Nat.reduceAdd, Int.reduceEq, Int.reduceLT, Int.reduceLE, Int.reduceToNat, reduceIte, reduceCtorEq, Nat.reduceLeDiff, Nat.reduceLT, Nat.reduceMul, Nat.reduceSub, hpos, e1', hb2]
      exact hstop
    | false =>
      simp (maxSteps := 1000000) (disch := omega) only [rg, opX, opI, look, nth, setN, outO, binO, intO, strO, argsE, appd, cpyO, slcO, slsO, bndO, lo1, mnxO, bldO, bldV, splice, rd, fpS, lk, isNil, Nat.reduceBEq, Nat.reduceEqDiff, Nat.reduceAdd, Int.reduceEq, Int.reduceLT, Int.reduceLE, Int.reduceToNat, reduceIte, reduceCtorEq, Nat.reduceLeDiff, Nat.reduceLT, Nat.reduceMul, Nat.reduceSub, hpos, e1', hb2]
      refine ⟨_, _, _, _, f_text _ 1 p r (by omega) (by show 1 < q; omega) e1, ?_⟩
      have htl := txtF_len p r
      simp (maxSteps := 1000000) (disch := omega) only [rg, opX, opI, look, nth, setN, outO, binO, intO, strO, argsE, appd, cpyO, slcO, slsO, bndO, lo1, mnxO, bldO, bldV, splice, rd, fpS, lk, isNil, Nat.reduceBEq, Nat.reduceEqDiff, Nat.reduceAdd, Int.reduceEq, Int.reduceLT, Int.reduceLE, Int.reduceToNat, reduceIte, reduceCtorEq, Nat.reduceLeDiff, Nat.reduceLT, Nat.reduceMul, Nat.reduceSub]
      refine ⟨_, task_get (txtF p r).1 (by omega), ?_⟩
      have hq0 : 0 ≠ q := by omega
      have hq1 : 1 ≠ q := by omega
      have hq2 : 2 ≠ q := by omega
      have hkN : N - (i + 1) = k := by omega
      have h61 : ((k + 1 : Nat) : Int) - 1 = (k : Nat) := by omega
      rw [fSts, if_neg (by simp [hb2])] at hrs
      simp only at hrs
      generalize hg : stGetS (txtF p r).1 = g at hrs
      obtain ⟨st, gc⟩ := g
      generalize ht : (txtF p r).2 = t at hrs
      obtain ⟨t1, t2⟩ := t
      simp only at hrs
      have hrs2 : fSts p N n.2 = ((out ++ [st]) ++ (fSts p k (t1, t2 || !decide (gc = 0))).1, (fSts p k (t1, t2 || !decide (gc = 0))).2) := by rw [hrs]; simp
      have hl2 : (out ++ [st]).length = i + 1 := by simp [hol']
      have hrow : mv sttV out ++ [.agg [.int .i64 st.is, .int .i64 st.tried, .int .i64 st.due, .int .i64 st.token, .str st.result]] = mv sttV (out ++ [st]) := mv_app1
      rw [← hkN] at hrs2
      rcases hv with ⟨rfl, hov⟩ | ⟨id, g1, g2, rfl, g3⟩
      · subst hov
        by_cases c : gc = 0 <;> cases t2
        · simp (maxSteps := 1000000) (disch := omega) only [rg, opX, opI, look, nth, setN, outO, binO, intO, strO, argsE, appd, cpyO, slcO, slsO, bndO, lo1, mnxO, bldO, bldV, splice, rd, fpS, lk, isNil, Nat.reduceBEq, Nat.reduceEqDiff, Nat.reduceAdd, Int.reduceEq, Int.reduceLT, Int.reduceLE, Int.reduceToNat, reduceIte, reduceCtorEq, Nat.reduceLeDiff, Nat.reduceLT, Nat.reduceMul, Nat.reduceSub, stV, sttV, fdV, e2, appO, ht, hg, c, h61]
          refine hN2 _ _ i1 ?_
          refine ⟨by show 3 ≤ q + 2; omega, [] ++ [st], (t1, false || !decide (gc = 0)), .sl (q + 1) 0 1, (by simp (disch := omega) only [upd_eq, upd_ne, wo_0, wo_1, wo_2, e0]), (by simp (disch := omega) only [upd_eq, upd_ne, wo_0, wo_1, wo_2, fdV, c, Bool.false_or, Bool.true_or, decide_true, decide_false, Bool.not_true, Bool.not_false]), (by simp (disch := omega) only [upd_eq, upd_ne, wo_0, wo_1, wo_2]), hl2, hrs2, by rw [hkN], .inr ⟨q + 1, by omega, by show q + 1 < q + 2; omega, rfl, ?_⟩⟩
          rw [← hrow]
          simp [upd, mv]
          try omega
        · simp (maxSteps := 1000000) (disch := omega) only [rg, opX, opI, look, nth, setN, outO, binO, intO, strO, argsE, appd, cpyO, slcO, slsO, bndO, lo1, mnxO, bldO, bldV, splice, rd, fpS, lk, isNil, Nat.reduceBEq, Nat.reduceEqDiff, Nat.reduceAdd, Int.reduceEq, Int.reduceLT, Int.reduceLE, Int.reduceToNat, reduceIte, reduceCtorEq, Nat.reduceLeDiff, Nat.reduceLT, Nat.reduceMul, Nat.reduceSub, stV, sttV, fdV, e2, appO, ht, hg, c, h61]
          refine hN2 _ _ i1 ?_
          refine ⟨by show 3 ≤ q + 2; omega, [] ++ [st], (t1, true || !decide (gc = 0)), .sl (q + 1) 0 1, (by simp (disch := omega) only [upd_eq, upd_ne, wo_0, wo_1, wo_2, e0]), (by simp (disch := omega) only [upd_eq, upd_ne, wo_0, wo_1, wo_2, fdV, c, Bool.false_or, Bool.true_or, decide_true, decide_false, Bool.not_true, Bool.not_false]), (by simp (disch := omega) only [upd_eq, upd_ne, wo_0, wo_1, wo_2]), hl2, hrs2, by rw [hkN], .inr ⟨q + 1, by omega, by show q + 1 < q + 2; omega, rfl, ?_⟩⟩
          rw [← hrow]
          simp [upd, mv]
          try omega
        · simp (maxSteps := 1000000) (disch := omega) only [rg, opX, opI, look, nth, setN, outO, binO, intO, strO, argsE, appd, cpyO, slcO, slsO, bndO, lo1, mnxO, bldO, bldV, splice, rd, fpS, lk, isNil, Nat.reduceBEq, Nat.reduceEqDiff, Nat.reduceAdd, Int.reduceEq, Int.reduceLT, Int.reduceLE, Int.reduceToNat, reduceIte, reduceCtorEq, Nat.reduceLeDiff, Nat.reduceLT, Nat.reduceMul, Nat.reduceSub, stV, sttV, fdV, e2, appO, ht, hg, c, h61]
          refine hN2 _ _ i1 ?_
          refine ⟨by show 3 ≤ q + 2; omega, [] ++ [st], (t1, false || !decide (gc = 0)), .sl (q + 1) 0 1, (by simp (disch := omega) only [upd_eq, upd_ne, wo_0, wo_1, wo_2, e0]), (by simp (disch := omega) only [upd_eq, upd_ne, wo_0, wo_1, wo_2, fdV, c, Bool.false_or, Bool.true_or, decide_true, decide_false, Bool.not_true, Bool.not_false]), (by simp (disch := omega) only [upd_eq, upd_ne, wo_0, wo_1, wo_2]), hl2, hrs2, by rw [hkN], .inr ⟨q + 1, by omega, by show q + 1 < q + 2; omega, rfl, ?_⟩⟩
          rw [← hrow]
          simp [upd, mv]
          try omega
        · simp (maxSteps := 1000000) (disch := omega) only [rg, opX, opI, look, nth, setN, outO, binO, intO, strO, argsE, appd, cpyO, slcO, slsO, bndO, lo1, mnxO, bldO, bldV, splice, rd, fpS, lk, isNil, Nat.reduceBEq, Nat.reduceEqDiff, Nat.reduceAdd, Int.reduceEq, Int.reduceLT, Int.reduceLE, Int.reduceToNat, reduceIte, reduceCtorEq, Nat.reduceLeDiff, Nat.reduceLT, Nat.reduceMul, Nat.reduceSub, stV, sttV, fdV, e2, appO, ht, hg, c, h61]
          refine hN2 _ _ i1 ?_
          refine ⟨by show 3 ≤ q + 2; omega, [] ++ [st], (t1, true || !decide (gc = 0)), .sl (q + 1) 0 1, (by simp (disch := omega) only [upd_eq, upd_ne, wo_0, wo_1, wo_2, e0]), (by simp (disch := omega) only [upd_eq, upd_ne, wo_0, wo_1, wo_2, fdV, c, Bool.false_or, Bool.true_or, decide_true, decide_false, Bool.not_true, Bool.not_false]), (by simp (disch := omega) only [upd_eq, upd_ne, wo_0, wo_1, wo_2]), hl2, hrs2, by rw [hkN], .inr ⟨q + 1, by omega, by show q + 1 < q + 2; omega, rfl, ?_⟩⟩
          rw [← hrow]
          simp [upd, mv]
          try omega
      · have hid : id ≠ q := by omega
        have hid1 : id ≠ 1 := by omega
        have ht3 : List.take out.length (mv sttV out) = mv sttV out := List.take_of_length_le (by rw [mv_len]; omega)
        by_cases c : gc = 0 <;> cases t2
        · simp (maxSteps := 1000000) (disch := omega) only [rg, opX, opI, look, nth, setN, outO, binO, intO, strO, argsE, appd, cpyO, slcO, slsO, bndO, lo1, mnxO, bldO, bldV, splice, rd, fpS, lk, isNil, Nat.reduceBEq, Nat.reduceEqDiff, Nat.reduceAdd, Int.reduceEq, Int.reduceLT, Int.reduceLE, Int.reduceToNat, reduceIte, reduceCtorEq, Nat.reduceLeDiff, Nat.reduceLT, Nat.reduceMul, Nat.reduceSub, stV, sttV, fdV, e2, appO, ht, hg, c, h61, g3, ht3, hrow]
          refine ⟨⟨by omega, by omega⟩, ?_⟩
          refine hN2 _ _ i1 ?_
          refine ⟨by show 3 ≤ q + 2; omega, out ++ [st], (t1, false || !decide (gc = 0)), .sl (q + 1) 0 (out.length + 1), (by simp (disch := omega) only [upd_eq, upd_ne, wo_0, wo_1, wo_2, e0]), (by simp (disch := omega) only [upd_eq, upd_ne, wo_0, wo_1, wo_2, fdV, c, Bool.false_or, Bool.true_or, decide_true, decide_false, Bool.not_true, Bool.not_false]), (by simp (disch := omega) only [upd_eq, upd_ne, wo_0, wo_1, wo_2]), hl2, hrs2, by rw [hkN], .inr ⟨q + 1, by omega, by show q + 1 < q + 2; omega, by rw [hl2, hol'], (by simp (disch := omega) only [upd_eq, upd_ne, wo_0, wo_1, wo_2])⟩⟩
        · simp (maxSteps := 1000000) (disch := omega) only [rg, opX, opI, look, nth, setN, outO, binO, intO, strO, argsE, appd, cpyO, slcO, slsO, bndO, lo1, mnxO, bldO, bldV, splice, rd, fpS, lk, isNil, Nat.reduceBEq, Nat.reduceEqDiff, Nat.reduceAdd, Int.reduceEq, Int.reduceLT, Int.reduceLE, Int.reduceToNat, reduceIte, reduceCtorEq, Nat.reduceLeDiff, Nat.reduceLT, Nat.reduceMul, Nat.reduceSub, stV, sttV, fdV, e2, appO, ht, hg, c, h61, g3, ht3, hrow]
          refine ⟨⟨by omega, by omega⟩, ?_⟩
          refine hN2 _ _ i1 ?_
          refine ⟨by show 3 ≤ q + 2; omega, out ++ [st], (t1, true || !decide (gc = 0)), .sl (q + 1) 0 (out.length + 1), (by simp (disch := omega) only [upd_eq, upd_ne, wo_0, wo_1, wo_2, e0]), (by simp (disch := omega) only [upd_eq, upd_ne, wo_0, wo_1, wo_2, fdV, c, Bool.false_or, Bool.true_or, decide_true, decide_false, Bool.not_true, Bool.not_false]), (by simp (disch := omega) only [upd_eq, upd_ne, wo_0, wo_1, wo_2]), hl2, hrs2, by rw [hkN], .inr ⟨q + 1, by omega, by show q + 1 < q + 2; omega, by rw [hl2, hol'], (by simp (disch := omega) only [upd_eq, upd_ne, wo_0, wo_1, wo_2])⟩⟩
        · simp (maxSteps := 1000000) (disch := omega) only [rg, opX, opI, look, nth, setN, outO, binO, intO, strO, argsE, appd, cpyO, slcO, slsO, bndO, lo1, mnxO, bldO, bldV, splice, rd, fpS, lk, isNil, Nat.reduceBEq, Nat.reduceEqDiff, Nat.reduceAdd, Int.reduceEq, Int.reduceLT, Int.reduceLE, Int.reduceToNat, reduceIte, reduceCtorEq, Nat.reduceLeDiff, Nat.reduceLT, Nat.reduceMul, Nat.reduceSub, stV, sttV, fdV, e2, appO, ht, hg, c, h61, g3, ht3, hrow]
          refine ⟨⟨by omega, by omega⟩, ?_⟩
          refine hN2 _ _ i1 ?_
          refine ⟨by show 3 ≤ q + 2; omega, out ++ [st], (t1, false || !decide (gc = 0)), .sl (q + 1) 0 (out.length + 1), (by simp (disch := omega) only [upd_eq, upd_ne, wo_0, wo_1, wo_2, e0]), (by simp (disch := omega) only [upd_eq, upd_ne, wo_0, wo_1, wo_2, fdV, c, Bool.false_or, Bool.true_or, decide_true, decide_false, Bool.not_true, Bool.not_false]), (by simp (disch := omega) only [upd_eq, upd_ne, wo_0, wo_1, wo_2]), hl2, hrs2, by rw [hkN], .inr ⟨q + 1, by omega, by show q + 1 < q + 2; omega, by rw [hl2, hol'], (by simp (disch := omega) only [upd_eq, upd_ne, wo_0, wo_1, wo_2])⟩⟩
        · simp (maxSteps := 1000000) (disch := omega) only [rg, opX, opI, look, nth, setN, outO, binO, intO, strO, argsE, appd, cpyO, slcO, slsO, bndO, lo1, mnxO, bldO, bldV, splice, rd, fpS, lk, isNil, Nat.reduceBEq, Nat.reduceEqDiff, Nat.reduceAdd, Int.reduceEq, Int.reduceLT, Int.reduceLE, Int.reduceToNat, reduceIte, reduceCtorEq, Nat.reduceLeDiff, Nat.reduceLT, Nat.reduceMul, Nat.reduceSub, stV, sttV, fdV, e2, appO, ht, hg, c, h61, g3, ht3, hrow]
          refine ⟨⟨by omega, by omega⟩, ?_⟩
          refine hN2 _ _ i1 ?_
          refine ⟨by show 3 ≤ q + 2; omega, out ++ [st], (t1, true || !decide (gc = 0)), .sl (q + 1) 0 (out.length + 1), (by simp (disch := omega) only [upd_eq, upd_ne, wo_0, wo_1, wo_2, e0]), (by simp (disch := omega) only [upd_eq, upd_ne, wo_0, wo_1, wo_2, fdV, c, Bool.false_or, Bool.true_or, decide_true, decide_false, Bool.not_true, Bool.not_false]), (by simp (disch := omega) only [upd_eq, upd_ne, wo_0, wo_1, wo_2]), hl2, hrs2, by rw [hkN], .inr ⟨q + 1, by omega, by show q + 1 < q + 2; omega, by rw [hl2, hol'], (by simp (disch := omega) only [upd_eq, upd_ne, wo_0, wo_1, wo_2])⟩⟩
  · have hstop := stop (by rw [show N - i = 0 by omega]; rfl)
    rw [show N - i = 0 by omega] at hstop ⊢
    simp (maxSteps := 1000000) (disch := omega) only [rg, opX, opI, look, nth, setN, outO, binO, intO, strO, argsE, appd, cpyO, slcO, slsO, bndO, lo1, mnxO, bldO, bldV, splice, rd, fpS, lk, isNil, Nat.reduceBEq, Nat.reduceEqDiff, Nat.reduceAdd, Int.reduceEq, Int.reduceLT, Int.reduceLE, Int.reduceToNat, reduceIte, reduceCtorEq, Nat.reduceLeDiff, Nat.reduceLT, Nat.reduceMul, Nat.reduceSub, Int.natCast_zero]
    exact hstop

end Go.Proofs.Ytjlpmndipceboaa.Ev
end
section
set_option linter.unusedSimpArgs false
set_option linter.unusedVariables false
set_option maxRecDepth 10000
namespace Go.Proofs.Ytjlpmndipceboaa.Ev
open Go

/-! What was written is read again. -/
theorem beN_app (l : Str) (c : UInt8) : beN (l ++ [c]) = beN l * 256 + c.toNat := beN_snoc l c
theorem beN_beS : ∀ (k n : Nat), n < 256 ^ k → beN (beS k n) = n
  | 0, n, h => by simp at h; subst h; rfl
  | k + 1, n, h => by
    rw [beS, beN_snoc, beN_beS k (n / 256) (by rw [Nat.pow_succ] at h; omega)]
    have : (UInt8.ofNat (n % 256)).toNat = n % 256 := by simp
    rw [this]; omega
theorem beS_beN : ∀ (k : Nat) (l : Str), l.length = k → beS k (beN l) = l
  | 0, l, h => by rw [List.eq_nil_of_length_eq_zero h]; rfl
  | k + 1, l, h => by
    obtain ⟨m, c, rfl⟩ : ∃ m c, l = m ++ [c] := ⟨l.dropLast, l.getLast (by intro e; subst e; simp at h), (List.dropLast_concat_getLast _).symm⟩
    have hc := c.toNat_lt
    rw [beN_snoc, beS, show (beN m * 256 + c.toNat) / 256 = beN m by omega, show (beN m * 256 + c.toNat) % 256 = c.toNat by omega, beS_beN k m (by simpa using h)]
    simp
/-- Reading a number gives the bytes that stand there. -/
theorem getS_ok {s : Str} {a k : Int} (h : (getS s a k).2.2 = 0) : 1 ≤ k ∧ k ≤ 6 ∧ 0 ≤ a ∧ a + k ≤ s.length ∧ (getS s a k).2.1 = a + k ∧ putS (getS s a k).1 k = ((s.drop a.toNat).take k.toNat, 0) ∧ 0 ≤ (getS s a k).1 := by
  rcases getS_cases s a k with (e | e) | ⟨h1, h2, h3, h4, e⟩
  · rw [e] at h; simp at h
  · rw [e] at h; simp at h
  · have hl : ((s.drop a.toNat).take k.toNat).length = k.toNat := by simp; omega
    have hlt := beN_lt ((s.drop a.toNat).take k.toNat)
    rw [hl] at hlt
    refine ⟨h1, h2, h3, h4, by rw [e], ?_, by rw [e]; simp⟩
    rw [e]
    rw [putS_in ⟨h1, h2, by simp, by simp only; exact_mod_cast hlt⟩]
    simp only [Int.toNat_natCast]
    rw [beS_beN _ _ hl]
/-- Bytes that were put are read again. -/
theorem getS_put {s pre post : Str} {n k : Int} (hs : s = pre ++ (putS n k).1 ++ post) (hp : (putS n k).2 = 0) : getS s pre.length k = (n, pre.length + k, 0) := by
  obtain ⟨h1, h2, h3, h4⟩ := putS_ok.1 hp
  have e := putS_in ⟨h1, h2, h3, h4⟩
  rw [e] at hs
  simp only at hs
  have hbl := beS_len k.toNat n.toNat
  have hsl : s.length = pre.length + k.toNat + post.length := by rw [hs, List.length_append, List.length_append, hbl]
  have hd : (s.drop (pre.length : Int).toNat).take k.toNat = beS k.toNat n.toNat := by
    rw [hs, Int.toNat_natCast, List.append_assoc, List.drop_left, List.take_append_of_le_length (by rw [hbl]; exact Nat.le_refl _), List.take_of_length_le (by rw [hbl]; exact Nat.le_refl _)]
  unfold getS
  rw [if_neg (by omega), if_neg (by omega), hd, beN_beS _ _ (by
    have : ((n.toNat : Nat) : Int) < ((256 ^ k.toNat : Nat) : Int) := by push_cast; omega
    exact_mod_cast this)]
  simp; omega

theorem cutS_ok {s : Str} {a : Int} (h : (cutS s a).2.2 = 0) : 0 ≤ a ∧ a + 2 + (cutS s a).1.length ≤ s.length ∧ (cutS s a).2.1 = a + 2 + (cutS s a).1.length ∧ (cutS s a).1.length ≤ 65535 ∧
    (textS (cutS s a).1).1 = (s.drop a.toNat).take (2 + (cutS s a).1.length) := by
  unfold cutS at h ⊢
  simp only at h ⊢
  by_cases c : (getS s a 2).2.2 = 0
  case neg => rw [if_pos c] at h; exact absurd h c
  rw [if_neg (by simpa using c)] at h ⊢
  obtain ⟨h1, h2, h3, h4, h5, h6, h7⟩ := getS_ok c
  by_cases c2 : (s.length : Int) - (getS s a 2).2.1 < (getS s a 2).1
  · rw [if_pos c2] at h; simp at h
  rw [if_neg c2]
  have hlt : (getS s a 2).1 < 65536 := by
    have := (putS_ok (n := (getS s a 2).1) (k := 2)).1 (by rw [h6])
    exact this.2.2.2
  generalize hn : (getS s a 2).1 = n at *
  obtain ⟨N, rfl⟩ : ∃ N : Nat, n = N := ⟨n.toNat, by omega⟩
  obtain ⟨A, rfl⟩ : ∃ A : Nat, a = A := ⟨a.toNat, by omega⟩
  rw [h5] at c2 ⊢
  have e1 : ((A : Int) + 2).toNat = A + 2 := by omega
  simp only [e1, Int.toNat_natCast]
  have hl : ((s.drop (A + 2)).take N).length = N := by simp; omega
  refine ⟨by omega, by rw [hl]; omega, by rw [hl], by rw [hl]; omega, ?_⟩
  rw [textS_in (by rw [hl]; omega), hl]
  have e2 : beS 2 N = (s.drop A).take 2 := by
    have := putS_in (n := (N : Int)) (k := 2) ⟨by omega, by omega, by omega, by exact hlt⟩
    rw [h6] at this
    simpa using this.symm
  rw [e2, Nat.add_comm A 2, List.take_add, List.drop_drop, Nat.add_comm 2 A]
theorem cutS_put {s pre post t : Str} (hs : s = pre ++ (textS t).1 ++ post) (ht : t.length ≤ 65535) : cutS s pre.length = (t, (pre.length : Int) + 2 + t.length, 0) := by
  rw [textS_in ht] at hs
  simp only at hs
  have hbl := beS_len 2 t.length
  have hp : putS (t.length : Int) 2 = (beS 2 t.length, 0) := by
    rw [putS_in ⟨by omega, by omega, by omega, by show (t.length : Int) < 65536; omega⟩]; simp
  have hg := getS_put (s := s) (pre := pre) (post := t ++ post) (n := t.length) (k := 2) (by rw [hp, hs]; simp) (by rw [hp])
  have hsl : s.length = pre.length + (2 + t.length) + post.length := by rw [hs, List.length_append, List.length_append, List.length_append, hbl]
  unfold cutS
  simp only [hg]
  rw [if_neg (by simp), if_neg (by omega)]
  have e1 : ((pre.length : Int) + 2).toNat = (pre ++ beS 2 t.length).length := by rw [List.length_append, hbl]; omega
  have e3 : s = (pre ++ beS 2 t.length) ++ (t ++ post) := by rw [hs]; simp
  rw [e1, e3, List.drop_left]
  simp

end Go.Proofs.Ytjlpmndipceboaa.Ev
end
section
set_option linter.unusedSimpArgs false
set_option linter.unusedVariables false
set_option maxRecDepth 10000
namespace Go.Proofs.Ytjlpmndipceboaa.Ev
open Go

theorem take_grow {s w : Str} {a k : Nat} (h : w = (s.drop a).take k) : s.take a ++ w = s.take (a + k) := by rw [h, List.take_add]
theorem next_ok {s : Str} {r : Int × Int} {k : Int} (h : (nextS s r k).2.2 = 0) : r.2 = 0 ∧ (s.take r.1.toNat ++ (putS (nextS s r k).1 k).1 = s.take (nextS s r k).2.1.toNat) ∧ (putS (nextS s r k).1 k).2 = 0 ∧ (nextS s r k).2.1 = r.1 + k ∧ (nextS s r k).2.1 ≤ s.length := by
  unfold nextS at h ⊢
  by_cases c : r.2 = 0
  · rw [if_pos c] at h ⊢
    obtain ⟨h1, h2, h3, h4, h5, h6, h7⟩ := getS_ok h
    rw [h6]
    refine ⟨c, ?_, rfl, h5, by rw [h5]; omega⟩
    rw [take_grow (k := k.toNat) rfl, h5]
    congr 1; omega
  · rw [if_neg c] at h; exact absurd h c
theorem txt_ok {s : Str} {r : Int × Int} (h : (txtS s r).2.2 = 0) : r.2 = 0 ∧ (s.take r.1.toNat ++ (textS (txtS s r).1).1 = s.take (txtS s r).2.1.toNat) ∧ (txtS s r).1.length ≤ 65535 ∧ (txtS s r).2.1 = r.1 + 2 + (txtS s r).1.length ∧ (txtS s r).2.1 ≤ s.length := by
  unfold txtS at h ⊢
  by_cases c : r.2 = 0
  · rw [if_pos c] at h ⊢
    obtain ⟨h1, h2, h3, h4, h5⟩ := cutS_ok h
    refine ⟨c, ?_, h4, h3, by rw [h3]; omega⟩
    rw [take_grow h5, h3]
    congr 1; omega
  · rw [if_neg c] at h; exact absurd h c
theorem next_put {s pre post : Str} {n k : Int} (hs : s = (pre ++ (putS n k).1) ++ post) (hp : (putS n k).2 = 0) : nextS s (pre.length, 0) k = (n, ((pre ++ (putS n k).1).length : Int), 0) := by
  have h := getS_put hs hp
  have hk := putS_ok.1 hp
  have e := putS_in hk
  unfold nextS; rw [if_pos rfl]; simp only; rw [h]
  simp only [e, List.length_append, beS_len]
  simp; omega
theorem txt_put {s pre post t : Str} (hs : s = (pre ++ (textS t).1) ++ post) (ht : t.length ≤ 65535) : txtS s (pre.length, 0) = (t, ((pre ++ (textS t).1).length : Int), 0) := by
  have h := cutS_put hs ht
  have e := textS_in ht
  unfold txtS; rw [if_pos rfl]; simp only; rw [h]
  simp only [e, List.length_append, beS_len]
  simp; omega

theorem stGet_back {s : Str} (h : (stGetS s).2 = 0) : stPutS (stGetS s).1 = (s, 0) := by
  have hst := stGet_ok h
  have hz : (stRead s).2.2 = 0 ∧ (stRead s).2.1 = s.length ∧ (stGetS s).1 = (stRead s).1 := by
    unfold stGetS at h ⊢
    split
    · rename_i h1
      rw [if_pos h1] at h
      split
      · rename_i h2; exact ⟨h1, h2.1, rfl⟩
      · rename_i h2; rw [if_neg h2] at h; simp at h
    · rename_i h1
      rw [if_neg h1] at h; exact absurd h h1
  obtain ⟨z1, z2, z3⟩ := hz
  rw [z3] at hst ⊢
  rw [stPutS, if_pos hst]
  simp only [stRead] at z1 z2 ⊢
  obtain ⟨d0, d1, d2, d3, d4⟩ := txt_ok z1
  obtain ⟨c0, c1, c2, c3, c4⟩ := next_ok d0
  obtain ⟨b0, b1, b2, b3, b4⟩ := next_ok c0
  obtain ⟨a0, a1, a2, a3, a4⟩ := next_ok b0
  obtain ⟨_, o1, o2, o3, o4⟩ := next_ok a0
  simp only [stBytes, Int.toNat_zero, List.take_zero, List.nil_append] at *
  rw [z2, Int.toNat_natCast, List.take_length] at d1
  congr 1
  rw [o1, a1, b1, c1, d1]
theorem stPut_back {st : Stt} (h : standsS st = true) : stGetS (stBytes st) = (st, 0) := by
  have hn : stNumS st = true := by simp only [standsS, Bool.and_eq_true] at h; exact h.1
  have hl := stands_len h
  simp only [standsS, stNumS, Bool.and_eq_true, decide_eq_true_eq] at h
  obtain ⟨⟨h1, h2, h3, h4, h5, h6⟩, h7, h8, _⟩ := h
  have p1 : (putS st.is 1).2 = 0 := putS_ok.2 ⟨by omega, by omega, by omega, by show st.is < 256; omega⟩
  have p2 : (putS st.tried 1).2 = 0 := putS_ok.2 ⟨by omega, by omega, by omega, by show st.tried < 256; omega⟩
  have p3 : (putS st.due 6).2 = 0 := putS_ok.2 ⟨by omega, by omega, by omega, by show st.due < 281474976710656; omega⟩
  have p4 : (putS st.token 6).2 = 0 := putS_ok.2 ⟨by omega, by omega, by omega, by show st.token < 281474976710656; omega⟩
  generalize hs : stBytes st = s
  have hs' := hs
  unfold stBytes at hs'
  have q1 := next_put (s := s) (pre := []) (post := (putS st.tried 1).1 ++ ((putS st.due 6).1 ++ ((putS st.token 6).1 ++ (textS st.result).1))) (by rw [← hs']; simp) p1
  have q2 := next_put (s := s) (pre := [] ++ (putS st.is 1).1) (post := (putS st.due 6).1 ++ ((putS st.token 6).1 ++ (textS st.result).1)) (by rw [← hs']; simp) p2
  have q3 := next_put (s := s) (pre := ([] ++ (putS st.is 1).1) ++ (putS st.tried 1).1) (post := (putS st.token 6).1 ++ (textS st.result).1) (by rw [← hs']; simp) p3
  have q4 := next_put (s := s) (pre := (([] ++ (putS st.is 1).1) ++ (putS st.tried 1).1) ++ (putS st.due 6).1) (post := (textS st.result).1) (by rw [← hs']; simp) p4
  have q5 := txt_put (s := s) (pre := ((([] ++ (putS st.is 1).1) ++ (putS st.tried 1).1) ++ (putS st.due 6).1) ++ (putS st.token 6).1) (post := []) (t := st.result) (by rw [← hs']; simp) (by omega)
  have hr : stRead s = (st, (s.length : Int), 0) := by
    simp only [stRead]
    simp only [List.length_nil, Int.natCast_zero] at q1
    simp only [q1, q2, q3, q4, q5]
    simp [← hs']
  have hst : standsS st = true := by simp only [standsS, stNumS, Bool.and_eq_true, decide_eq_true_eq]; exact ⟨⟨h1, h2, h3, h4, h5, h6⟩, h7, h8, by assumption⟩
  simp [stGetS, hr, hst]

end Go.Proofs.Ytjlpmndipceboaa.Ev
end
section
set_option linter.unusedSimpArgs false
set_option linter.unusedVariables false
set_option maxRecDepth 10000
namespace Go.Proofs.Ytjlpmndipceboaa.Ev
open Go

theorem num_ok {s : Str} {r : Int × Bool} {k : Int} (h : (numF s r k).2.2 = false) : r.2 = false ∧ (s.take r.1.toNat ++ (putS (numF s r k).1 k).1 = s.take (numF s r k).2.1.toNat) ∧ (putS (numF s r k).1 k).2 = 0 := by
  unfold numF at h ⊢
  by_cases c : r.2 = false
  · rw [if_pos c] at h ⊢
    simp only [Bool.not_eq_false', decide_eq_true_eq] at h
    have e : nextS s (r.1, 0) k = getS s r.1 k := by simp [nextS]
    have := next_ok (s := s) (r := (r.1, 0)) (k := k) (by rw [e]; exact h)
    rw [e] at this
    exact ⟨c, this.2.1, this.2.2.1⟩
  · rw [if_neg c] at h; exact absurd h c
theorem txtF_ok {s : Str} {r : Int × Bool} (h : (txtF s r).2.2 = false) : r.2 = false ∧ (s.take r.1.toNat ++ (textS (txtF s r).1).1 = s.take (txtF s r).2.1.toNat) ∧ (txtF s r).1.length ≤ 255 := by
  unfold txtF at h ⊢
  by_cases c : r.2 = false
  · rw [if_pos c] at h ⊢
    simp only [Bool.or_eq_false_iff, Bool.not_eq_false', decide_eq_true_eq, decide_eq_false_iff_not] at h
    have e : txtS s (r.1, 0) = cutS s r.1 := by simp [txtS]
    have := txt_ok (s := s) (r := (r.1, 0)) (by rw [e]; exact h.1)
    rw [e] at this
    exact ⟨c, this.2.1, by simp only; omega⟩
  · rw [if_neg c] at h; exact absurd h c
theorem num_put {s pre post : Str} {n k : Int} (hs : s = (pre ++ (putS n k).1) ++ post) (hp : (putS n k).2 = 0) : numF s (pre.length, false) k = (n, ((pre ++ (putS n k).1).length : Int), false) := by
  have h := next_put hs hp
  have e : nextS s (pre.length, 0) k = getS s pre.length k := by simp [nextS]
  rw [e] at h
  simp [numF, h]
theorem txtF_put {s pre post t : Str} (hs : s = (pre ++ (textS t).1) ++ post) (ht : t.length ≤ 255) : txtF s (pre.length, false) = (t, ((pre ++ (textS t).1).length : Int), false) := by
  have h := txt_put hs (by omega)
  have e : txtS s (pre.length, 0) = cutS s pre.length := by simp [txtS]
  rw [e] at h
  simp [txtF, h]; omega

theorem fSts_ok {p : Str} : ∀ {k : Nat} {r : Int × Bool}, (fSts p k r).2.2 = false → r.2 = false ∧ (fSts p k r).1.length = k ∧ (fSts p k r).1.all standsS = true ∧ p.take r.1.toNat ++ stsB (fSts p k r).1 = p.take (fSts p k r).2.1.toNat
  | 0, r, h => by simp only [fSts] at h ⊢; exact ⟨h, rfl, rfl, by simp [stsB]⟩
  | k + 1, r, h => by
    rw [fSts] at h ⊢
    by_cases c : r.2 = true
    · rw [if_pos c] at h; rw [c] at h; cases h
    rw [if_neg c] at h ⊢
    simp only at h ⊢
    obtain ⟨h1, h2, h3, h4⟩ := fSts_ok h
    simp only [Bool.or_eq_false_iff, Bool.not_eq_false', decide_eq_true_eq] at h1
    obtain ⟨t1, t2, t3⟩ := txtF_ok h1.1
    have hb := stGet_back h1.2
    have hst := stGet_ok h1.2
    have hby : stBytes (stGetS (txtF p r).1).1 = (txtF p r).1 := by rw [stPutS, if_pos hst] at hb; exact congrArg Prod.fst hb
    refine ⟨t1, by simp [h2], by simp [hst, h3], ?_⟩
    rw [← h4]
    have e : stsB ((stGetS (txtF p r).1).1 :: (fSts p k ((txtF p r).2.1, (txtF p r).2.2 || !decide ((stGetS (txtF p r).1).2 = 0))).1) = (textS (txtF p r).1).1 ++ stsB (fSts p k ((txtF p r).2.1, (txtF p r).2.2 || !decide ((stGetS (txtF p r).1).2 = 0))).1 := by
      show (textS (stBytes _)).1 ++ _ = _
      rw [hby]; rfl
    rw [e, ← List.append_assoc, t2]
theorem sts_put {p : Str} : ∀ {l : List Stt} {pre post : Str}, l.all standsS = true → p = (pre ++ stsB l) ++ post → fSts p l.length (pre.length, false) = (l, ((pre ++ stsB l).length : Int), false) ∧ refSts p l.length (pre.length, 0) = some l
  | [], pre, post, _, _ => by simp [fSts, refSts, stsB]
  | s :: l, pre, post, h, hp => by
    simp only [List.all_cons, Bool.and_eq_true] at h
    have e : stsB (s :: l) = (textS (stBytes s)).1 ++ stsB l := rfl
    have hl := stands_len h.1
    have hbl := stBytes_len s
    have q1 := txtF_put (s := p) (pre := pre) (post := stsB l ++ post) (t := stBytes s) (by rw [hp, e]; simp) (by omega)
    have q2 := txt_put (s := p) (pre := pre) (post := stsB l ++ post) (t := stBytes s) (by rw [hp, e]; simp) (by omega)
    have q3 := stPut_back h.1
    obtain ⟨i1, i2⟩ := sts_put (p := p) (l := l) (pre := pre ++ (textS (stBytes s)).1) (post := post) h.2 (by rw [hp, e]; simp)
    constructor
    · rw [List.length_cons, fSts, if_neg (by simp)]
      simp only [q1, q3, decide_true, Bool.not_true, Bool.or_false, i1]
      rw [e, List.append_assoc]
    · rw [List.length_cons, refSts]
      simp only [q2, q3, if_true, i2]
      rfl

theorem open_seal (p : Str) : openS (sealS p) = (p, 0) := by
  have hl : (sealS p).length = p.length + 4 := by simp [sealS, le4]
  have ht : (sealS p).take ((sealS p).length - 4) = p := by rw [hl, Nat.add_sub_cancel, sealS, List.take_left]
  unfold openS
  rw [if_neg (by omega), ht, if_neg (by simp)]
theorem seal_open {s : Str} (h : (openS s).2 = 0) : sealS (openS s).1 = s := by
  unfold openS at h ⊢
  split
  · rename_i h1; rw [if_pos h1] at h; simp at h
  · rename_i h1
    rw [if_neg h1] at h
    split
    · rename_i h2; rw [if_pos h2] at h; simp at h
    · rename_i h2; simpa using h2

theorem told_back {s : Str} (h : (toldS s).2 = 0) : answerS (toldS s).1 = (s, 0) := by
  unfold toldS at h ⊢
  simp only at h ⊢
  generalize hq : rawF (openS s).1 (!decide ((openS s).2 = 0)) = q at h ⊢
  by_cases c : q.2.2 = true ∨ q.2.1 ≠ (openS s).1.length
  · rw [if_pos c] at h; simp at h
  rw [if_neg c]
  simp only [not_or, Bool.not_eq_true, Decidable.not_not] at c
  obtain ⟨c1, c2⟩ := c
  subst hq
  have hop := seal_open (s := s)
  generalize (openS s).1 = p at *
  simp only [rawF] at c1 c2 ⊢
  obtain ⟨f0, f1, f2, f3⟩ := fSts_ok c1
  obtain ⟨e0, e1, e2⟩ := num_ok f0
  obtain ⟨d0, d1, d2⟩ := num_ok e0
  obtain ⟨x0, x1, x2⟩ := num_ok d0
  obtain ⟨b0, b1, b2⟩ := num_ok x0
  obtain ⟨a0, a1, a2⟩ := txtF_ok b0
  obtain ⟨o0, o1, o2⟩ := num_ok a0
  have hbad : (!decide ((openS s).2 = 0)) = false := o0
  simp only [Bool.not_eq_false', decide_eq_true_eq] at hbad
  have hsl := hop hbad
  generalize hA : numF p (0, !decide ((openS s).2 = 0)) 2 = a at *
  generalize hB : txtF p a.2 = b at *
  generalize hC : numF p b.2 1 = c at *
  generalize hD : numF p c.2 6 = d at *
  generalize hE : numF p d.2 1 = e at *
  generalize hN : numF p e.2 1 = n at *
  generalize hF : fSts p n.1.toNat n.2 = f at *
  have q1 := putS_ok.1 o2
  have q2 := putS_ok.1 b2
  have q3 := putS_ok.1 x2
  have q4 := putS_ok.1 d2
  have q5 := putS_ok.1 e2
  have r1 : (256 : Int) ^ (2 : Int).toNat = 65536 := rfl
  have r2 : (256 : Int) ^ (1 : Int).toNat = 256 := rfl
  have r3 : (256 : Int) ^ (6 : Int).toNat = 281474976710656 := rfl
  rw [r1] at q1; rw [r2] at q2 q4 q5; rw [r3] at q3
  have hlen : ((f.1.length : Nat) : Int) = n.1 := by rw [f1]; omega
  have hnum : ansNumS ⟨a.1, b.1, c.1, d.1, e.1, f.1⟩ = true := by
    simp only [ansNumS, decide_eq_true_eq]; omega
  have hR : ansRightS ⟨a.1, b.1, c.1, d.1, e.1, f.1⟩ = true := by simp only [ansRightS, hnum, f2, Bool.and_self]
  have hH : ansHead ⟨a.1, b.1, c.1, d.1, e.1, f.1⟩ ++ stsB f.1 = p := by
    simp only [ansHead, hlen]
    simp only [Int.toNat_zero, List.take_zero, List.nil_append] at o1
    rw [o1, a1, b1, x1, d1, e1, f3, c2]
    simp
  rw [answerS, if_pos hR]
  simp only
  rw [hH, hsl]

theorem answer_back {s : Str} {a : Ans} (h : answerS a = (s, 0)) : toldS s = (a, 0) ∧ refToldS s = (a, 0) := by
  have hR : ansRightS a = true := by
    unfold answerS at h; split at h
    · assumption
    · simp at h
  have hs : s = sealS (ansHead a ++ stsB a.states) := by rw [answerS, if_pos hR] at h; simpa using h.symm
  have ho : openS s = (ansHead a ++ stsB a.states, 0) := by rw [hs, open_seal]
  generalize hp : ansHead a ++ stsB a.states = p at ho
  simp only [ansRightS, ansNumS, Bool.and_eq_true, decide_eq_true_eq] at hR
  obtain ⟨⟨h1, h2, h3, h4, h5, h6, h7, h8, h9, h10⟩, hall⟩ := hR
  have p1 : (putS a.why 2).2 = 0 := putS_ok.2 ⟨by omega, by omega, by omega, by show a.why < 65536; omega⟩
  have p2 : (putS a.task 1).2 = 0 := putS_ok.2 ⟨by omega, by omega, by omega, by show a.task < 256; omega⟩
  have p3 : (putS a.token 6).2 = 0 := putS_ok.2 ⟨by omega, by omega, by omega, by show a.token < 281474976710656; omega⟩
  have p4 : (putS a.is 1).2 = 0 := putS_ok.2 ⟨by omega, by omega, by omega, by show a.is < 256; omega⟩
  have p5 : (putS a.states.length 1).2 = 0 := putS_ok.2 ⟨by omega, by omega, by omega, by show (a.states.length : Int) < 256; omega⟩
  have hh : ansHead a = ((((([] ++ (putS a.why 2).1) ++ (textS a.key).1) ++ (putS a.task 1).1) ++ (putS a.token 6).1) ++ (putS a.is 1).1) ++ (putS a.states.length 1).1 := by simp [ansHead]
  have z : ((([] : Str).length : Nat) : Int) = 0 := rfl
  have hp0 : p = (ansHead a ++ stsB a.states) ++ [] := by rw [hp, List.append_nil]
  have hp1 := hp0
  rw [hh] at hp1
  have t1 := num_put (s := p) (pre := []) (post := (textS a.key).1 ++ ((putS a.task 1).1 ++ ((putS a.token 6).1 ++ ((putS a.is 1).1 ++ ((putS a.states.length 1).1 ++ stsB a.states))))) (by rw [hp1]; simp) p1
  have t2 := txtF_put (s := p) (pre := [] ++ (putS a.why 2).1) (post := (putS a.task 1).1 ++ ((putS a.token 6).1 ++ ((putS a.is 1).1 ++ ((putS a.states.length 1).1 ++ stsB a.states)))) (t := a.key) (by rw [hp1]; simp) h3
  have t3 := num_put (s := p) (pre := ([] ++ (putS a.why 2).1) ++ (textS a.key).1) (post := (putS a.token 6).1 ++ ((putS a.is 1).1 ++ ((putS a.states.length 1).1 ++ stsB a.states))) (by rw [hp1]; simp) p2
  have t4 := num_put (s := p) (pre := (([] ++ (putS a.why 2).1) ++ (textS a.key).1) ++ (putS a.task 1).1) (post := (putS a.is 1).1 ++ ((putS a.states.length 1).1 ++ stsB a.states)) (by rw [hp1]; simp) p3
  have t5 := num_put (s := p) (pre := ((([] ++ (putS a.why 2).1) ++ (textS a.key).1) ++ (putS a.task 1).1) ++ (putS a.token 6).1) (post := (putS a.states.length 1).1 ++ stsB a.states) (by rw [hp1]; simp) p4
  have t6 := num_put (s := p) (pre := (((([] ++ (putS a.why 2).1) ++ (textS a.key).1) ++ (putS a.task 1).1) ++ (putS a.token 6).1) ++ (putS a.is 1).1) (post := stsB a.states) (by rw [hp1, List.append_nil]) p5
  have u1 := next_put (s := p) (pre := []) (post := (textS a.key).1 ++ ((putS a.task 1).1 ++ ((putS a.token 6).1 ++ ((putS a.is 1).1 ++ ((putS a.states.length 1).1 ++ stsB a.states))))) (by rw [hp1]; simp) p1
  have u2 := txt_put (s := p) (pre := [] ++ (putS a.why 2).1) (post := (putS a.task 1).1 ++ ((putS a.token 6).1 ++ ((putS a.is 1).1 ++ ((putS a.states.length 1).1 ++ stsB a.states)))) (t := a.key) (by rw [hp1]; simp) (by omega)
  have u3 := next_put (s := p) (pre := ([] ++ (putS a.why 2).1) ++ (textS a.key).1) (post := (putS a.token 6).1 ++ ((putS a.is 1).1 ++ ((putS a.states.length 1).1 ++ stsB a.states))) (by rw [hp1]; simp) p2
  have u4 := next_put (s := p) (pre := (([] ++ (putS a.why 2).1) ++ (textS a.key).1) ++ (putS a.task 1).1) (post := (putS a.is 1).1 ++ ((putS a.states.length 1).1 ++ stsB a.states)) (by rw [hp1]; simp) p3
  have u5 := next_put (s := p) (pre := ((([] ++ (putS a.why 2).1) ++ (textS a.key).1) ++ (putS a.task 1).1) ++ (putS a.token 6).1) (post := (putS a.states.length 1).1 ++ stsB a.states) (by rw [hp1]; simp) p4
  have u6 := next_put (s := p) (pre := (((([] ++ (putS a.why 2).1) ++ (textS a.key).1) ++ (putS a.task 1).1) ++ (putS a.token 6).1) ++ (putS a.is 1).1) (post := stsB a.states) (by rw [hp1, List.append_nil]) p5
  obtain ⟨v1, v2⟩ := sts_put hall hp0
  rw [← hh] at t6 u6
  rw [z] at t1 u1
  have hraw : rawF p false = (a, (p.length : Int), false) := by
    simp only [rawF, t1, t2, t3, t4, t5, t6, Int.toNat_natCast, v1]
    rw [hp]
  have hraw2 : rawTold p = some a := by
    simp only [rawTold, u1, u2, u3, u4, u5, u6, Int.toNat_natCast, v2]
    rfl
  constructor
  · unfold toldS
    rw [ho]
    simp only [decide_true, Bool.not_true, hraw]
    simp
  · unfold refToldS
    rw [ho]
    simp only [hraw2, h, if_true]

/-- Both read the same. -/
theorem told_same (s : Str) : toldS s = refToldS s := by
  have e1 : ∀ {x : Ans × Int}, x.2 = 0 ∨ x = (zeroA, 230) → x.2 ≠ 0 → x = (zeroA, 230) := fun h h' => h.elim (fun h => absurd h h') id
  have k1 : (toldS s).2 = 0 ∨ toldS s = (zeroA, 230) := by
    unfold toldS; simp only; split
    · exact .inr rfl
    · exact .inl rfl
  by_cases c : (toldS s).2 = 0
  · have := answer_back (told_back c)
    rw [this.2]; exact Prod.ext rfl c
  · have ht := e1 k1 c
    have hr : refToldS s = (zeroA, 230) := by
      unfold refToldS
      split
      · split
        · rename_i a _
          split
          · rename_i h2
            have := (answer_back h2).1
            rw [ht] at this; simp at this
          · rfl
        · rfl
      · rfl
    rw [ht, hr]

end Go.Proofs.Ytjlpmndipceboaa.Ev
end
section
set_option linter.unusedSimpArgs false
set_option linter.unusedVariables false
set_option maxRecDepth 10000
namespace Go.Proofs.Ytjlpmndipceboaa.Ev
open Go

def eqSt (a b : Stt) : Bool := decide (a.is = b.is) && (decide (a.tried = b.tried) && (decide (a.due = b.due) && (decide (a.token = b.token) && decide (a.result = b.result))))
theorem eqF_stt (a b : Stt) : eqF [0, 0, 0, 0, 1] [.int .i64 a.is, .int .i64 a.tried, .int .i64 a.due, .int .i64 a.token, .str a.result] [.int .i64 b.is, .int .i64 b.tried, .int .i64 b.due, .int .i64 b.token, .str b.result] = some (eqSt a b) := by
  simp [eqF, eqSt]
def sameSts : List Stt → List Stt → Bool
  | [], [] => true
  | a :: l, b :: l' => eqSt a b && sameSts l l'
  | _, _ => false
theorem same_sts (l l' : List Stt) (hl : l.length ≤ 1000000) (hl' : l'.length ≤ 1000000) : PCall Try.prog 49 [sttsV l, sttsV l'] (.bool (sameSts l l')) := by
  refine en49 (by simp) (by simp [closedL, sttsV_closed]) ?_
  have hne : ∀ {x y : List Stt}, x.length ≠ y.length → sameSts x y = false := by
    intro x; induction x with
    | nil => intro y h; cases y with
      | nil => exact absurd rfl h
      | cons b y => rfl
    | cons a x ih => intro y h; cases y with
      | nil => rfl
      | cons b y => simp only [sameSts]; rw [ih (fun e => h (by simp [e]))]; simp
  simp (maxSteps := 1000000) (disch := omega) only [rg, opX, opI, look, nth, setN, outO, binO, intO, strO, argsE, appd, cpyO, slcO, slsO, bndO, lo1, mnxO, bldO, bldV, splice, rd, fpS, lk, isNil, Nat.reduceBEq, Nat.reduceEqDiff, Nat.reduceAdd, Int.reduceEq, Int.reduceLT, Int.reduceLE, Int.reduceToNat, reduceIte, reduceCtorEq, Nat.reduceLeDiff, Nat.reduceLT, Nat.reduceMul, Nat.reduceSub, c49, sttsV]
  by_cases c : l.length = l'.length
  case neg =>
    simp (maxSteps := 1000000) (disch := omega) only [rg, opX, opI, look, nth, setN, outO, binO, intO, strO, argsE, appd, cpyO, slcO, slsO, bndO, lo1, mnxO, bldO, bldV, splice, rd, fpS, lk, isNil, Nat.reduceBEq, Nat.reduceEqDiff, Nat.reduceAdd, Int.reduceEq, Int.reduceLT, Int.reduceLE, Int.reduceToNat, reduceIte, reduceCtorEq, Nat.reduceLeDiff, Nat.reduceLT, Nat.reduceMul, Nat.reduceSub, show ¬ (l.length : Int) = l'.length by omega]
    (refine fin_x rfl ?_ ?_ <;> simp [pack, lo, loL, V.closed, closedL, mv_closed, hne c])
  simp (maxSteps := 1000000) (disch := omega) only [rg, opX, opI, look, nth, setN, outO, binO, intO, strO, argsE, appd, cpyO, slcO, slsO, bndO, lo1, mnxO, bldO, bldV, splice, rd, fpS, lk, isNil, Nat.reduceBEq, Nat.reduceEqDiff, Nat.reduceAdd, Int.reduceEq, Int.reduceLT, Int.reduceLE, Int.reduceToNat, reduceIte, reduceCtorEq, Nat.reduceLeDiff, Nat.reduceLT, Nat.reduceMul, Nat.reduceSub, show (l.length : Int) = l'.length by omega]
  refine x_itp l.length (fun i => sameSts l l' = sameSts (l.drop i) (l'.drop i)) (fun i => [(0, sttsV l), (1, sttsV l'), (12, .int .i64 l.length), (13, .int .i64 i)]) (by simp) (by simp [sttsV, c]) ?_
  intro T i hi hs hN hX hR
  simp (maxSteps := 1000000) (disch := omega) only [rg, opX, opI, look, nth, setN, outO, binO, intO, strO, argsE, appd, cpyO, slcO, slsO, bndO, lo1, mnxO, bldO, bldV, splice, rd, fpS, lk, isNil, Nat.reduceBEq, Nat.reduceEqDiff, Nat.reduceAdd, Int.reduceEq, Int.reduceLT, Int.reduceLE, Int.reduceToNat, reduceIte, reduceCtorEq, Nat.reduceLeDiff, Nat.reduceLT, Nat.reduceMul, Nat.reduceSub, sttsV]
  refine ⟨fun h => ?_, fun h => ?_⟩
  · have i1 : i < l.length := by omega
    have i2 : i < l'.length := by omega
    rw [List.drop_eq_getElem_cons i1, List.drop_eq_getElem_cons i2, sameSts] at hs
    simp (maxSteps := 1000000) (disch := omega) only [rg, opX, opI, look, nth, setN, outO, binO, intO, strO, argsE, appd, cpyO, slcO, slsO, bndO, lo1, mnxO, bldO, bldV, splice, rd, fpS, lk, isNil, Nat.reduceBEq, Nat.reduceEqDiff, Nat.reduceAdd, Int.reduceEq, Int.reduceLT, Int.reduceLE, Int.reduceToNat, reduceIte, reduceCtorEq, Nat.reduceLeDiff, Nat.reduceLT, Nat.reduceMul, Nat.reduceSub, sttV, eqF_stt]
    cases he : eqSt l[i] l'[i] with
    | false =>
      simp (maxSteps := 1000000) (disch := omega) only [rg, opX, opI, look, nth, setN, outO, binO, intO, strO, argsE, appd, cpyO, slcO, slsO, bndO, lo1, mnxO, bldO, bldV, splice, rd, fpS, lk, isNil, Nat.reduceBEq, Nat.reduceEqDiff, Nat.reduceAdd, Int.reduceEq, Int.reduceLT, Int.reduceLE, Int.reduceToNat, reduceIte, reduceCtorEq, Nat.reduceLeDiff, Nat.reduceLT, Nat.reduceMul, Nat.reduceSub, he]
      refine hR _ _ ?_
      simp (maxSteps := 1000000) (disch := omega) only [rg, opX, opI, look, nth, setN, outO, binO, intO, strO, argsE, appd, cpyO, slcO, slsO, bndO, lo1, mnxO, bldO, bldV, splice, rd, fpS, lk, isNil, Nat.reduceBEq, Nat.reduceEqDiff, Nat.reduceAdd, Int.reduceEq, Int.reduceLT, Int.reduceLE, Int.reduceToNat, reduceIte, reduceCtorEq, Nat.reduceLeDiff, Nat.reduceLT, Nat.reduceMul, Nat.reduceSub]
      (refine fin_x rfl ?_ ?_ <;> simp [pack, lo, loL, V.closed, closedL, mv_closed, hs, he])
    | true =>
      simp (maxSteps := 1000000) (disch := omega) only [rg, opX, opI, look, nth, setN, outO, binO, intO, strO, argsE, appd, cpyO, slcO, slsO, bndO, lo1, mnxO, bldO, bldV, splice, rd, fpS, lk, isNil, Nat.reduceBEq, Nat.reduceEqDiff, Nat.reduceAdd, Int.reduceEq, Int.reduceLT, Int.reduceLE, Int.reduceToNat, reduceIte, reduceCtorEq, Nat.reduceLeDiff, Nat.reduceLT, Nat.reduceMul, Nat.reduceSub, he]
      refine hN _ i1 ?_ ?_
      · rw [hs, he, Bool.true_and]
      · rfl
  · obtain rfl : i = l.length := by omega
    refine hX _ _ _ ?_
    simp (maxSteps := 1000000) (disch := omega) only [rg, opX, opI, look, nth, setN, outO, binO, intO, strO, argsE, appd, cpyO, slcO, slsO, bndO, lo1, mnxO, bldO, bldV, splice, rd, fpS, lk, isNil, Nat.reduceBEq, Nat.reduceEqDiff, Nat.reduceAdd, Int.reduceEq, Int.reduceLT, Int.reduceLE, Int.reduceToNat, reduceIte, reduceCtorEq, Nat.reduceLeDiff, Nat.reduceLT, Nat.reduceMul, Nat.reduceSub]
    refine x_frz0 ?_
    simp (maxSteps := 1000000) (disch := omega) only [rg, opX, opI, look, nth, setN, outO, binO, intO, strO, argsE, appd, cpyO, slcO, slsO, bndO, lo1, mnxO, bldO, bldV, splice, rd, fpS, lk, isNil, Nat.reduceBEq, Nat.reduceEqDiff, Nat.reduceAdd, Int.reduceEq, Int.reduceLT, Int.reduceLE, Int.reduceToNat, reduceIte, reduceCtorEq, Nat.reduceLeDiff, Nat.reduceLT, Nat.reduceMul, Nat.reduceSub]
    rw [List.drop_length, c, List.drop_length] at hs
    (refine fin_x rfl ?_ ?_ <;> simp [pack, lo, loL, V.closed, closedL, mv_closed, hs, sameSts])

def likeAns (a b : Ans) : Bool := decide (a.why = b.why) && (decide (a.key = b.key) && (decide (a.task = b.task) && (decide (a.token = b.token) && (decide (a.is = b.is) && sameSts a.states b.states))))
theorem like_answer (a b : Ans) (ha : a.states.length ≤ 1000000) (hb : b.states.length ≤ 1000000) : PCall Try.prog 20 [ansV a, ansV b] (.bool (likeAns a b)) := by
  refine en20 (by simp) (by simp [closedL, ansV_closed]) ?_
  have ks := same_sts a.states b.states ha hb
  unfold sttsV at ks
  simp (maxSteps := 1000000) (disch := omega) only [rg, opX, opI, look, nth, setN, outO, binO, intO, strO, argsE, appd, cpyO, slcO, slsO, bndO, lo1, mnxO, bldO, bldV, splice, rd, fpS, lk, isNil, Nat.reduceBEq, Nat.reduceEqDiff, Nat.reduceAdd, Int.reduceEq, Int.reduceLT, Int.reduceLE, Int.reduceToNat, reduceIte, reduceCtorEq, Nat.reduceLeDiff, Nat.reduceLT, Nat.reduceMul, Nat.reduceSub, c20, ansV, sttsV]
  by_cases c1 : a.why = b.why
  case neg =>
    simp (maxSteps := 1000000) (disch := omega) only [rg, opX, opI, look, nth, setN, outO, binO, intO, strO, argsE, appd, cpyO, slcO, slsO, bndO, lo1, mnxO, bldO, bldV, splice, rd, fpS, lk, isNil, Nat.reduceBEq, Nat.reduceEqDiff, Nat.reduceAdd, Int.reduceEq, Int.reduceLT, Int.reduceLE, Int.reduceToNat, reduceIte, reduceCtorEq, Nat.reduceLeDiff, Nat.reduceLT, Nat.reduceMul, Nat.reduceSub, c1]
    (refine fin_x rfl ?_ ?_ <;> simp [pack, lo, loL, V.closed, closedL, mv_closed, likeAns, c1])
  by_cases c2 : a.key = b.key
  case neg =>
    simp (maxSteps := 1000000) (disch := omega) only [rg, opX, opI, look, nth, setN, outO, binO, intO, strO, argsE, appd, cpyO, slcO, slsO, bndO, lo1, mnxO, bldO, bldV, splice, rd, fpS, lk, isNil, Nat.reduceBEq, Nat.reduceEqDiff, Nat.reduceAdd, Int.reduceEq, Int.reduceLT, Int.reduceLE, Int.reduceToNat, reduceIte, reduceCtorEq, Nat.reduceLeDiff, Nat.reduceLT, Nat.reduceMul, Nat.reduceSub, c1, c2]
    (refine fin_x rfl ?_ ?_ <;> simp [pack, lo, loL, V.closed, closedL, mv_closed, likeAns, c2])
  by_cases c3 : a.task = b.task
  case neg =>
    simp (maxSteps := 1000000) (disch := omega) only [rg, opX, opI, look, nth, setN, outO, binO, intO, strO, argsE, appd, cpyO, slcO, slsO, bndO, lo1, mnxO, bldO, bldV, splice, rd, fpS, lk, isNil, Nat.reduceBEq, Nat.reduceEqDiff, Nat.reduceAdd, Int.reduceEq, Int.reduceLT, Int.reduceLE, Int.reduceToNat, reduceIte, reduceCtorEq, Nat.reduceLeDiff, Nat.reduceLT, Nat.reduceMul, Nat.reduceSub, c1, c2, c3]
    (refine fin_x rfl ?_ ?_ <;> simp [pack, lo, loL, V.closed, closedL, mv_closed, likeAns, c3])
  by_cases c4 : a.token = b.token
  case neg =>
    simp (maxSteps := 1000000) (disch := omega) only [rg, opX, opI, look, nth, setN, outO, binO, intO, strO, argsE, appd, cpyO, slcO, slsO, bndO, lo1, mnxO, bldO, bldV, splice, rd, fpS, lk, isNil, Nat.reduceBEq, Nat.reduceEqDiff, Nat.reduceAdd, Int.reduceEq, Int.reduceLT, Int.reduceLE, Int.reduceToNat, reduceIte, reduceCtorEq, Nat.reduceLeDiff, Nat.reduceLT, Nat.reduceMul, Nat.reduceSub, c1, c2, c3, c4]
    (refine fin_x rfl ?_ ?_ <;> simp [pack, lo, loL, V.closed, closedL, mv_closed, likeAns, c4])
  by_cases c5 : a.is = b.is
  case neg =>
    simp (maxSteps := 1000000) (disch := omega) only [rg, opX, opI, look, nth, setN, outO, binO, intO, strO, argsE, appd, cpyO, slcO, slsO, bndO, lo1, mnxO, bldO, bldV, splice, rd, fpS, lk, isNil, Nat.reduceBEq, Nat.reduceEqDiff, Nat.reduceAdd, Int.reduceEq, Int.reduceLT, Int.reduceLE, Int.reduceToNat, reduceIte, reduceCtorEq, Nat.reduceLeDiff, Nat.reduceLT, Nat.reduceMul, Nat.reduceSub, c1, c2, c3, c4, c5]
    (refine fin_x rfl ?_ ?_ <;> simp [pack, lo, loL, V.closed, closedL, mv_closed, likeAns, c5])
  simp (maxSteps := 1000000) (disch := omega) only [rg, opX, opI, look, nth, setN, outO, binO, intO, strO, argsE, appd, cpyO, slcO, slsO, bndO, lo1, mnxO, bldO, bldV, splice, rd, fpS, lk, isNil, Nat.reduceBEq, Nat.reduceEqDiff, Nat.reduceAdd, Int.reduceEq, Int.reduceLT, Int.reduceLE, Int.reduceToNat, reduceIte, reduceCtorEq, Nat.reduceLeDiff, Nat.reduceLT, Nat.reduceMul, Nat.reduceSub, c1, c2, c3, c4, c5]
  refine ⟨_, ks, ?_⟩
  simp (maxSteps := 1000000) (disch := omega) only [rg, opX, opI, look, nth, setN, outO, binO, intO, strO, argsE, appd, cpyO, slcO, slsO, bndO, lo1, mnxO, bldO, bldV, splice, rd, fpS, lk, isNil, Nat.reduceBEq, Nat.reduceEqDiff, Nat.reduceAdd, Int.reduceEq, Int.reduceLT, Int.reduceLE, Int.reduceToNat, reduceIte, reduceCtorEq, Nat.reduceLeDiff, Nat.reduceLT, Nat.reduceMul, Nat.reduceSub]
  (refine fin_x rfl ?_ ?_ <;> simp [pack, lo, loL, V.closed, closedL, mv_closed, likeAns, c1, c2, c3, c4, c5])
theorem same_refl : ∀ l : List Stt, sameSts l l = true
  | [] => rfl
  | a :: l => by simp [sameSts, eqSt, same_refl l]
theorem like_refl (a : Ans) : likeAns a a = true := by simp [likeAns, same_refl]

def briefS (a : Ans) : Ans := { a with key := a.key.take 300, states := a.states.take 300 }
theorem law_brief (a : Ans) (hk : a.key.length ≤ 4611686018427387904) (hl : a.states.length ≤ 4611686018427387904) : PCall Try.prog 15 [ansV a] (ansV (briefS a)) := by
  refine en15 (by simp) (by simp [closedL, ansV_closed]) ?_
  simp (maxSteps := 1000000) (disch := omega) only [rg, opX, opI, look, nth, setN, outO, binO, intO, strO, argsE, appd, cpyO, slcO, slsO, bndO, lo1, mnxO, bldO, bldV, splice, rd, fpS, lk, isNil, Nat.reduceBEq, Nat.reduceEqDiff, Nat.reduceAdd, Int.reduceEq, Int.reduceLT, Int.reduceLE, Int.reduceToNat, reduceIte, reduceCtorEq, Nat.reduceLeDiff, Nat.reduceLT, Nat.reduceMul, Nat.reduceSub, c15, ansV, sttsV]
  refine ⟨⟨by omega, by omega, by omega⟩, ⟨by omega, by omega, by omega⟩, by simp [compat, disj, nthL], ?_⟩
  have e1 : (min (a.key.length : Int) 300).toNat = min a.key.length 300 := by omega
  have e2 : (min (a.states.length : Int) 300).toNat = min a.states.length 300 := by omega
  have e3 : a.key.take (min a.key.length 300) = a.key.take 300 := by rw [Nat.min_comm]; exact (List.take_eq_take_min ..).symm
  have e4 : (mv sttV a.states).take (min a.states.length 300) = mv sttV (a.states.take 300) := by
    rw [Nat.min_comm, ← mv_len (f := sttV), ← List.take_eq_take_min]; simp [mv, List.map_take]
  (refine fin_x rfl ?_ ?_ <;> simp [pack, lo, loL, V.closed, closedL, mv_closed, briefS, e1, e2, e3, e4, mv_closed sttV_closed, mv_lo sttV_lo])

end Go.Proofs.Ytjlpmndipceboaa.Ev
end
