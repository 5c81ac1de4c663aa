/-
  Part 3 of what the proof of the statement FrameTurned leans on: the evaluator, the functions in compact form, and what they answer.
-/
import Derived.Test.YtjlpmndipceboaaM2
import Derived.Test.YtjlpmndipceboaaProg
import Derived.KernelRfl
import Derived.Shelf.Strings.OnBuilder
section
set_option linter.unusedSimpArgs false
namespace Go.Proofs.Ytjlpmndipceboaa.Ev
open Go
/-- `penelope/code.All` -/
def c24 : C :=
  (.seq
 (.reg false [p (.mov (.k (.str [])))] [(0, .v 0)])
 (.seq
 (.reg false [p (.mov (.v 0)),
 p (.call true (.k (.fn 55 [] [])) [.r 0, .k (.str [])]),
 p (.mov (.r 0))] [(2, .r 0)])
 .ret))
def r24 : List RV := [.t 2]
theorem chk24 : Chk Try.prog Try.f24 c24 r24 := ⟨_, rfl, by kernel_rfl, by kernel_rfl⟩
theorem en24 : EnP Try.prog 24 5 c24 r24 := mkEnP (by kernel_rfl) Try.func24 (by kernel_rfl) chk24

/-- `penelope/code.Put` -/
def c51 : C :=
  (.seq
 (.reg false [p (.mov (.k (.str []))),
 p (.mov (.k (.int .i64 0)))] [(0, .v 0), (1, .v 1)])
 (.seq
 (.seq
 (.reg false [p (.mov (.v 1)),
 p (.bin .lss (.r 0) (.k (.int .i64 1))),
 p (.mov (.r 0)),
 ⟨.mov (.v 1), some (0, false), []⟩,
 ⟨.bin .gtr (.r 0) (.k (.int .i64 6)), some (1, false), []⟩,
 p (.pick (.r 2) (.k (.bool true)) (.r 0)),
 p (.mov (.r 0)),
 ⟨.mov (.v 0), some (0, false), []⟩,
 ⟨.bin .lss (.r 0) (.k (.int .i64 0)), some (1, false), []⟩,
 p (.pick (.r 2) (.k (.bool true)) (.r 0)),
 p (.mov (.r 0)),
 ⟨.mov (.v 0), some (0, false), []⟩,
 ⟨.mov (.v 1), some (1, false), []⟩,
 ⟨.bin .mul (.k (.int .i64 8)) (.r 0), some (2, false), []⟩,
 ⟨.bin .shr (.r 2) (.r 0), some (3, false), []⟩,
 ⟨.bin .neq (.r 0) (.k (.int .i64 0)), some (4, false), []⟩,
 p (.pick (.r 5) (.k (.bool true)) (.r 0))] [(0, .v 0), (1, .v 1), (24, .r 0)])
 (.cond (.v 24)
 (.seq
 (.reg false [p (.mov (.k (.str []))),
 p (.mov (.k (.int .i64 1)))] [(4, .r 1), (5, .r 0)])
 .ret)
 .skip))
 (.seq
 (.reg false [p (.mov (.v 1)),
 p (.mks 1 1 (.int .u8 0) (.r 0)),
 p (.mov (.r 0))] [(0, .v 0), (1, .v 1), (6, .r 0)])
 (.seq
 (.seq
 (.reg false [p (.mov (.v 6)),
 p (.len false (.r 0)),
 p (.mov (.k (.int .i64 0)))] [(0, .v 0), (1, .v 1), (6, .v 6), (28, .r 1), (29, .r 0)])
 (.block 0
 (.loop
 (.seq
 (.reg false [p (.bin .lss (.v 29) (.v 28))] [(0, .v 0), (1, .v 1), (6, .v 6), (28, .v 28), (29, .v 29), (30, .r 0)])
 (.seq
 (.cond (.v 30)
 .skip
 (.exit 0))
 (.seq
 (.block 1
 (.seq
 (.reg false [p (.mov (.v 29)),
 p (.mov (.r 0))] [(0, .v 0), (1, .v 1), (6, .v 6), (7, .r 0), (28, .v 28), (29, .v 29)])
 (.reg false [p (.mov (.v 6)),
 p (.mov (.v 1)),
 p (.bin .sub (.r 0) (.k (.int .i64 1))),
 p (.mov (.v 7)),
 p (.bin .sub (.r 1) (.r 0)),
 p (.mov (.v 0)),
 p (.mov (.v 7)),
 p (.bin .mul (.k (.int .i64 8)) (.r 0)),
 p (.bin .shr (.r 2) (.r 0)),
 p (.cvt .u8 (.r 0)),
 p (.iad 1 (.r 9) (.r 5)),
 p (.store (none) (.r 0) (.r 1))] [(0, .v 0), (1, .v 1), (6, .v 6), (28, .v 28), (29, .v 29)])))
 (.reg false [p (.bin .add (.v 29) (.k (.int .i64 1))),
 p (.mov (.r 0))] [(0, .v 0), (1, .v 1), (6, .v 6), (28, .v 28), (29, .r 0)])))))))
 (.frz
 (.seq
 (.reg false [p (.mov (.v 6)),
 p (.bts (.r 0)),
 p (.mov (.r 0)),
 p (.mov (.k (.int .i64 0)))] [(4, .r 1), (5, .r 0)])
 .ret))))))
def r51 : List RV := [.t 4, .t 5]
theorem chk51 : Chk Try.prog Try.f51 c51 r51 := ⟨_, rfl, by kernel_rfl, by kernel_rfl⟩
theorem en51 : EnP Try.prog 51 46 c51 r51 := mkEnP (by kernel_rfl) Try.func51 (by kernel_rfl) chk51

/-- `penelope/code.Text` -/
def c53 : C :=
  (.seq
 (.reg false [p (.mov (.k (.str []))),
 p (.mov (.k (.int .i64 0)))] [(0, .v 0)])
 (.seq
 (.seq
 (.reg false [p (.mov (.v 0)),
 p (.len true (.r 0)),
 p (.bin .gtr (.r 0) (.k (.int .i64 65535)))] [(0, .v 0), (8, .r 0)])
 (.cond (.v 8)
 (.seq
 (.reg false [p (.mov (.k (.str []))),
 p (.mov (.k (.int .i64 2)))] [(2, .r 1), (3, .r 0)])
 .ret)
 .skip))
 (.seq
 (.reg false [p (.mov (.v 0)),
 p (.len true (.r 0)),
 p (.call true (.k (.fn 51 [] [])) [.r 0, .k (.int .i64 2)]),
 p (.mov (.r 0)),
 p (.ext (.r 0) 0),
 p (.ext (.r 1) 1),
 p (.mov (.r 1)),
 p (.mov (.r 1))] [(0, .v 0), (4, .r 1), (5, .r 0)])
 (.seq
 (.reg false [p (.mov (.v 4)),
 p (.mov (.v 0)),
 p (.bsl 1 [.r 1, .r 0]),
 p (.call true (.k (.fn 24 [] [])) [.r 0]),
 p (.mov (.v 5)),
 p (.mov (.r 1)),
 p (.mov (.r 1))] [(2, .r 1), (3, .r 0)])
 .ret))))
def r53 : List RV := [.t 2, .t 3]
theorem chk53 : Chk Try.prog Try.f53 c53 r53 := ⟨_, rfl, by kernel_rfl, by kernel_rfl⟩
theorem en53 : EnP Try.prog 53 20 c53 r53 := mkEnP (by kernel_rfl) Try.func53 (by kernel_rfl) chk53

/-- `penelope/code.Get` -/
def c64 : C :=
  (.seq
 (.reg false [p (.mov (.k (.int .i64 0))),
 p (.mov (.k (.int .i64 0))),
 p (.mov (.k (.int .i64 0)))] [(0, .v 0), (1, .v 1), (2, .v 2)])
 (.seq
 (.block 0
 (.seq
 (.reg false [p (.mov (.v 2)),
 p (.bin .lss (.r 0) (.k (.int .i64 1))),
 p (.mov (.r 0)),
 ⟨.mov (.v 2), some (0, false), []⟩,
 ⟨.bin .gtr (.r 0) (.k (.int .i64 6)), some (1, false), []⟩,
 p (.pick (.r 2) (.k (.bool true)) (.r 0)),
 p (.mov (.r 0)),
 ⟨.mov (.v 1), some (0, false), []⟩,
 ⟨.bin .lss (.r 0) (.k (.int .i64 0)), some (1, false), []⟩,
 p (.pick (.r 2) (.k (.bool true)) (.r 0)),
 p (.mov (.r 0)),
 ⟨.mov (.v 1), some (0, false), []⟩,
 ⟨.mov (.v 0), some (1, false), []⟩,
 ⟨.len true (.r 0), some (2, false), []⟩,
 ⟨.bin .gtr (.r 2) (.r 0), some (3, false), []⟩,
 p (.pick (.r 4) (.k (.bool true)) (.r 0)),
 p (.mov (.r 0))] [(0, .v 0), (1, .v 1), (2, .v 2), (12, .r 0)])
 (.cond (.v 12)
 (.seq
 (.reg false [p (.mov (.k (.int .i64 0))),
 p (.mov (.k (.int .i64 0))),
 p (.mov (.k (.int .i64 1)))] [(6, .r 2), (7, .r 1), (8, .r 0)])
 .ret)
 (.seq
 (.reg false [p (.mov (.v 0)),
 p (.len true (.r 0)),
 p (.mov (.v 1)),
 p (.bin .sub (.r 1) (.r 0)),
 p (.mov (.v 2)),
 p (.bin .lss (.r 1) (.r 0)),
 p (.mov (.r 0))] [(0, .v 0), (1, .v 1), (2, .v 2), (29, .r 0)])
 (.cond (.v 29)
 (.seq
 (.reg false [p (.mov (.k (.int .i64 0))),
 p (.mov (.k (.int .i64 0))),
 p (.mov (.k (.int .i64 3)))] [(6, .r 2), (7, .r 1), (8, .r 0)])
 .ret)
 .skip)))))
 (.seq
 (.reg false [p (.mov (.k (.int .i64 0)))] [(0, .v 0), (1, .v 1), (2, .v 2), (9, .r 0)])
 (.seq
 (.seq
 (.reg false [p (.mov (.v 0)),
 p (.mov (.v 1)),
 p (.mov (.v 1)),
 p (.mov (.v 2)),
 p (.bin .add (.r 1) (.r 0)),
 p (.sls (.r 4) (some (.r 3)) (some (.r 0))),
 p (.stb (.r 0)),
 p (.len false (.r 0)),
 p (.mov (.k (.int .i64 0)))] [(1, .v 1), (2, .v 2), (9, .v 9), (42, .r 2), (43, .r 1), (44, .r 0)])
 (.block 1
 (.loop
 (.seq
 (.reg false [p (.bin .lss (.v 44) (.v 43))] [(1, .v 1), (2, .v 2), (9, .v 9), (42, .v 42), (43, .v 43), (44, .v 44), (45, .r 0)])
 (.seq
 (.cond (.v 45)
 .skip
 (.exit 1))
 (.seq
 (.block 2
 (.seq
 (.reg false [p (.iad 1 (.v 42) (.v 44)),
 p (.load (none) (.r 0)),
 p (.mov (.r 0))] [(1, .v 1), (2, .v 2), (9, .v 9), (11, .r 0), (42, .v 42), (43, .v 43), (44, .v 44)])
 (.reg false [p (.mov (.v 9)),
 p (.bin .shl (.r 0) (.k (.int .u64 8))),
 p (.mov (.v 11)),
 p (.cvt .i64 (.r 0)),
 p (.bin .or (.r 2) (.r 0)),
 p (.mov (.r 0))] [(1, .v 1), (2, .v 2), (9, .r 0), (42, .v 42), (43, .v 43), (44, .v 44)])))
 (.reg false [p (.bin .add (.v 44) (.k (.int .i64 1))),
 p (.mov (.r 0))] [(1, .v 1), (2, .v 2), (9, .v 9), (42, .v 42), (43, .v 43), (44, .r 0)])))))))
 (.frz
 (.seq
 (.reg false [p (.mov (.v 9)),
 p (.mov (.v 1)),
 p (.mov (.v 2)),
 p (.bin .add (.r 1) (.r 0)),
 p (.mov (.r 3)),
 p (.mov (.r 1)),
 p (.mov (.k (.int .i64 0)))] [(6, .r 2), (7, .r 1), (8, .r 0)])
 .ret))))))
def r64 : List RV := [.t 6, .t 7, .t 8]
theorem chk64 : Chk Try.prog Try.f64 c64 r64 := ⟨_, rfl, by kernel_rfl, by kernel_rfl⟩
theorem en64 : EnP Try.prog 64 58 c64 r64 := mkEnP (by kernel_rfl) Try.func64 (by kernel_rfl) chk64

/-- `penelope/code.Cut` -/
def c65 : C :=
  (.seq
 (.reg false [p (.mov (.k (.str []))),
 p (.mov (.k (.int .i64 0))),
 p (.mov (.k (.int .i64 0)))] [(0, .v 0), (1, .v 1)])
 (.seq
 (.reg false [p (.mov (.v 0)),
 p (.mov (.v 1)),
 p (.call true (.k (.fn 64 [] [])) [.r 1, .r 0, .k (.int .i64 2)]),
 p (.mov (.r 0)),
 p (.ext (.r 0) 0),
 p (.ext (.r 1) 1),
 p (.ext (.r 2) 2),
 p (.mov (.r 2)),
 p (.mov (.r 2)),
 p (.mov (.r 2))] [(0, .v 0), (1, .r 1), (7, .r 2), (8, .r 0)])
 (.seq
 (.block 0
 (.seq
 (.reg false [p (.mov (.v 8)),
 p (.bin .neq (.r 0) (.k (.int .i64 0))),
 p (.mov (.r 0))] [(0, .v 0), (1, .v 1), (7, .v 7), (8, .v 8), (16, .r 0)])
 (.cond (.v 16)
 (.seq
 (.reg false [p (.mov (.v 8)),
 p (.mov (.k (.str []))),
 p (.mov (.k (.int .i64 0))),
 p (.mov (.r 2))] [(4, .r 2), (5, .r 1), (6, .r 0)])
 .ret)
 (.seq
 (.reg false [p (.mov (.v 0)),
 p (.len true (.r 0)),
 p (.mov (.v 1)),
 p (.bin .sub (.r 1) (.r 0)),
 p (.mov (.v 7)),
 p (.bin .lss (.r 1) (.r 0)),
 p (.mov (.r 0))] [(0, .v 0), (1, .v 1), (7, .v 7), (20, .r 0)])
 (.cond (.v 20)
 (.seq
 (.reg false [p (.mov (.k (.str []))),
 p (.mov (.k (.int .i64 0))),
 p (.mov (.k (.int .i64 3)))] [(4, .r 2), (5, .r 1), (6, .r 0)])
 .ret)
 .skip)))))
 (.seq
 (.reg false [p (.mov (.v 0)),
 p (.mov (.v 1)),
 p (.mov (.v 1)),
 p (.mov (.v 7)),
 p (.bin .add (.r 1) (.r 0)),
 p (.sls (.r 4) (some (.r 3)) (some (.r 0))),
 p (.mov (.v 1)),
 p (.mov (.v 7)),
 p (.bin .add (.r 1) (.r 0)),
 p (.mov (.r 3)),
 p (.mov (.r 1)),
 p (.mov (.k (.int .i64 0)))] [(4, .r 2), (5, .r 1), (6, .r 0)])
 .ret))))
def r65 : List RV := [.t 4, .t 5, .t 6]
theorem chk65 : Chk Try.prog Try.f65 c65 r65 := ⟨_, rfl, by kernel_rfl, by kernel_rfl⟩
theorem en65 : EnP Try.prog 65 36 c65 r65 := mkEnP (by kernel_rfl) Try.func65 (by kernel_rfl) chk65

/-- `penelope/peneloperef01.Put` -/
def c61 : C :=
  (.seq
 (.reg false [p (.mov (.k (.str []))),
 p (.mov (.k (.int .i64 0)))] [(0, .v 0), (1, .v 1)])
 (.seq
 (.seq
 (.reg false [p (.mov (.v 1)),
 p (.bin .lss (.r 0) (.k (.int .i64 1))),
 p (.mov (.r 0)),
 ⟨.mov (.v 1), some (0, false), []⟩,
 ⟨.bin .gtr (.r 0) (.k (.int .i64 6)), some (1, false), []⟩,
 p (.pick (.r 2) (.k (.bool true)) (.r 0)),
 p (.mov (.r 0)),
 ⟨.mov (.v 0), some (0, false), []⟩,
 ⟨.bin .lss (.r 0) (.k (.int .i64 0)), some (1, false), []⟩,
 p (.pick (.r 2) (.k (.bool true)) (.r 0)),
 p (.mov (.r 0)),
 ⟨.mov (.v 0), some (0, false), []⟩,
 ⟨.mov (.v 1), some (1, false), []⟩,
 ⟨.call true (.k (.fn 81 [] [])) [.r 0], some (2, false), []⟩,
 ⟨.bin .geq (.r 2) (.r 0), some (3, false), []⟩,
 p (.pick (.r 4) (.k (.bool true)) (.r 0))] [(0, .v 0), (1, .v 1), (23, .r 0)])
 (.cond (.v 23)
 (.seq
 (.reg false [p (.mov (.k (.str []))),
 p (.mov (.k (.int .i64 1)))] [(4, .r 1), (5, .r 0)])
 .ret)
 .skip))
 (.seq
 (.reg false [p (.bsl 1 []),
 p (.mov (.r 0))] [(0, .v 0), (1, .v 1), (6, .r 0)])
 (.seq
 (.seq
 (.reg false [p (.mov (.v 1)),
 p (.bin .sub (.r 0) (.k (.int .i64 1))),
 p (.mov (.r 0))] [(0, .v 0), (6, .v 6), (7, .r 0)])
 (.block 0
 (.loop
 (.seq
 (.seq
 (.reg false [p (.mov (.v 7)),
 p (.bin .geq (.r 0) (.k (.int .i64 0)))] [(0, .v 0), (6, .v 6), (7, .v 7), (28, .r 0)])
 (.cond (.v 28)
 .skip
 (.exit 0)))
 (.seq
 (.block 1
 (.reg false [p (.mov (.v 6)),
 p (.mov (.v 0)),
 p (.mov (.v 7)),
 p (.call true (.k (.fn 81 [] [])) [.r 0]),
 p (.bin .quo (.r 2) (.r 0)),
 p (.bin .rem (.r 0) (.k (.int .i64 256))),
 p (.cvt .u8 (.r 0)),
 p (.bsl 1 [.r 0]),
 p (.app 1 1 (.r 7) (.r 0)),
 p (.mov (.r 0))] [(0, .v 0), (6, .r 0), (7, .v 7)]))
 (.reg false [p (.mov (.v 7)),
 p (.bin .sub (.r 0) (.k (.int .i64 1))),
 p (.mov (.r 0))] [(0, .v 0), (6, .v 6), (7, .r 0)]))))))
 (.frz
 (.seq
 (.reg false [p (.mov (.v 6)),
 p (.bts (.r 0)),
 p (.mov (.r 0)),
 p (.mov (.k (.int .i64 0)))] [(4, .r 1), (5, .r 0)])
 .ret))))))
def r61 : List RV := [.t 4, .t 5]
theorem chk61 : Chk Try.prog Try.f61 c61 r61 := ⟨_, rfl, by kernel_rfl, by kernel_rfl⟩
theorem en61 : EnP Try.prog 61 42 c61 r61 := mkEnP (by kernel_rfl) Try.func61 (by kernel_rfl) chk61

/-- `penelope/peneloperef01.Text` -/
def c59 : C :=
  (.seq
 (.reg false [p (.mov (.k (.str []))),
 p (.mov (.k (.int .i64 0)))] [(0, .v 0)])
 (.seq
 (.seq
 (.reg false [p (.mov (.v 0)),
 p (.len true (.r 0)),
 p (.bin .gtr (.r 0) (.k (.int .i64 65535)))] [(0, .v 0), (7, .r 0)])
 (.cond (.v 7)
 (.seq
 (.reg false [p (.mov (.k (.str []))),
 p (.mov (.k (.int .i64 2)))] [(2, .r 1), (3, .r 0)])
 .ret)
 .skip))
 (.seq
 (.reg false [p (.mov (.v 0)),
 p (.len true (.r 0)),
 p (.bin .quo (.r 0) (.k (.int .i64 256))),
 p (.cvt .u8 (.r 0)),
 p (.mov (.v 0)),
 p (.len true (.r 0)),
 p (.bin .rem (.r 0) (.k (.int .i64 256))),
 p (.cvt .u8 (.r 0)),
 p (.bsl 1 [.r 4, .r 0]),
 p (.mov (.r 0))] [(0, .v 0), (4, .r 0)])
 (.seq
 (.reg false [p (.mov (.v 4)),
 p (.bts (.r 0)),
 p (.mov (.v 0)),
 p (.bin .add (.r 1) (.r 0)),
 p (.mov (.r 0)),
 p (.mov (.k (.int .i64 0)))] [(2, .r 1), (3, .r 0)])
 .ret))))
def r59 : List RV := [.t 2, .t 3]
theorem chk59 : Chk Try.prog Try.f59 c59 r59 := ⟨_, rfl, by kernel_rfl, by kernel_rfl⟩
theorem en59 : EnP Try.prog 59 21 c59 r59 := mkEnP (by kernel_rfl) Try.func59 (by kernel_rfl) chk59

/-- `penelope/peneloperef01.Get` -/
def c71 : C :=
  (.seq
 (.reg false [p (.mov (.k (.int .i64 0))),
 p (.mov (.k (.int .i64 0))),
 p (.mov (.k (.int .i64 0)))] [(0, .v 0), (1, .v 1), (2, .v 2)])
 (.seq
 (.seq
 (.reg false [p (.mov (.v 2)),
 p (.bin .lss (.r 0) (.k (.int .i64 1))),
 p (.mov (.r 0)),
 ⟨.mov (.v 2), some (0, false), []⟩,
 ⟨.bin .gtr (.r 0) (.k (.int .i64 6)), some (1, false), []⟩,
 p (.pick (.r 2) (.k (.bool true)) (.r 0)),
 p (.mov (.r 0)),
 ⟨.mov (.v 1), some (0, false), []⟩,
 ⟨.bin .lss (.r 0) (.k (.int .i64 0)), some (1, false), []⟩,
 p (.pick (.r 2) (.k (.bool true)) (.r 0)),
 p (.mov (.r 0)),
 ⟨.mov (.v 1), some (0, false), []⟩,
 ⟨.mov (.v 0), some (1, false), []⟩,
 ⟨.len true (.r 0), some (2, false), []⟩,
 ⟨.bin .gtr (.r 2) (.r 0), some (3, false), []⟩,
 p (.pick (.r 4) (.k (.bool true)) (.r 0))] [(0, .v 0), (1, .v 1), (2, .v 2), (26, .r 0)])
 (.cond (.v 26)
 (.seq
 (.reg false [p (.mov (.k (.int .i64 0))),
 p (.mov (.k (.int .i64 0))),
 p (.mov (.k (.int .i64 1)))] [(6, .r 2), (7, .r 1), (8, .r 0)])
 .ret)
 .skip))
 (.seq
 (.seq
 (.reg false [p (.mov (.v 0)),
 p (.len true (.r 0)),
 p (.mov (.v 1)),
 p (.bin .sub (.r 1) (.r 0)),
 p (.mov (.v 2)),
 p (.bin .lss (.r 1) (.r 0))] [(0, .v 0), (1, .v 1), (2, .v 2), (32, .r 0)])
 (.cond (.v 32)
 (.seq
 (.reg false [p (.mov (.k (.int .i64 0))),
 p (.mov (.k (.int .i64 0))),
 p (.mov (.k (.int .i64 3)))] [(6, .r 2), (7, .r 1), (8, .r 0)])
 .ret)
 .skip))
 (.seq
 (.reg false [p (.mov (.k (.int .i64 0)))] [(0, .v 0), (1, .v 1), (2, .v 2), (9, .r 0)])
 (.seq
 (.seq
 (.reg false [p (.mov (.k (.int .i64 0)))] [(0, .v 0), (1, .v 1), (2, .v 2), (9, .v 9), (10, .r 0)])
 (.block 0
 (.loop
 (.seq
 (.seq
 (.reg false [p (.mov (.v 10)),
 p (.mov (.v 2)),
 p (.bin .lss (.r 1) (.r 0))] [(0, .v 0), (1, .v 1), (2, .v 2), (9, .v 9), (10, .v 10), (35, .r 0)])
 (.cond (.v 35)
 .skip
 (.exit 0)))
 (.seq
 (.block 1
 (.reg false [p (.mov (.v 9)),
 p (.bin .mul (.r 0) (.k (.int .i64 256))),
 p (.mov (.v 0)),
 p (.mov (.v 1)),
 p (.mov (.v 10)),
 p (.bin .add (.r 1) (.r 0)),
 p (.ixs (.r 3) (.r 0)),
 p (.cvt .i64 (.r 0)),
 p (.bin .add (.r 6) (.r 0)),
 p (.mov (.r 0))] [(0, .v 0), (1, .v 1), (2, .v 2), (9, .r 0), (10, .v 10)]))
 (.reg false [p (.mov (.v 10)),
 p (.bin .add (.r 0) (.k (.int .i64 1))),
 p (.mov (.r 0))] [(0, .v 0), (1, .v 1), (2, .v 2), (9, .v 9), (10, .r 0)]))))))
 (.frz
 (.seq
 (.reg false [p (.mov (.v 9)),
 p (.mov (.v 1)),
 p (.mov (.v 2)),
 p (.bin .add (.r 1) (.r 0)),
 p (.mov (.r 3)),
 p (.mov (.r 1)),
 p (.mov (.k (.int .i64 0)))] [(6, .r 2), (7, .r 1), (8, .r 0)])
 .ret)))))))
def r71 : List RV := [.t 6, .t 7, .t 8]
theorem chk71 : Chk Try.prog Try.f71 c71 r71 := ⟨_, rfl, by kernel_rfl, by kernel_rfl⟩
theorem en71 : EnP Try.prog 71 51 c71 r71 := mkEnP (by kernel_rfl) Try.func71 (by kernel_rfl) chk71

/-- `penelope/peneloperef01.Cut` -/
def c72 : C :=
  (.seq
 (.reg false [p (.mov (.k (.str []))),
 p (.mov (.k (.int .i64 0))),
 p (.mov (.k (.int .i64 0)))] [(0, .v 0), (1, .v 1)])
 (.seq
 (.reg false [p (.mov (.v 0)),
 p (.mov (.v 1)),
 p (.call true (.k (.fn 71 [] [])) [.r 1, .r 0, .k (.int .i64 2)]),
 p (.mov (.r 0)),
 p (.ext (.r 0) 0),
 p (.ext (.r 1) 1),
 p (.ext (.r 2) 2),
 p (.mov (.r 2)),
 p (.mov (.r 2)),
 p (.mov (.r 2))] [(0, .v 0), (7, .r 2), (8, .r 1), (9, .r 0)])
 (.seq
 (.seq
 (.reg false [p (.mov (.v 9)),
 p (.bin .neq (.r 0) (.k (.int .i64 0)))] [(0, .v 0), (7, .v 7), (8, .v 8), (9, .v 9), (18, .r 0)])
 (.cond (.v 18)
 (.seq
 (.reg false [p (.mov (.v 9)),
 p (.mov (.k (.str []))),
 p (.mov (.k (.int .i64 0))),
 p (.mov (.r 2))] [(4, .r 2), (5, .r 1), (6, .r 0)])
 .ret)
 .skip))
 (.seq
 (.seq
 (.reg false [p (.mov (.v 0)),
 p (.len true (.r 0)),
 p (.mov (.v 8)),
 p (.bin .sub (.r 1) (.r 0)),
 p (.mov (.v 7)),
 p (.bin .lss (.r 1) (.r 0))] [(0, .v 0), (7, .v 7), (8, .v 8), (25, .r 0)])
 (.cond (.v 25)
 (.seq
 (.reg false [p (.mov (.k (.str []))),
 p (.mov (.k (.int .i64 0))),
 p (.mov (.k (.int .i64 3)))] [(4, .r 2), (5, .r 1), (6, .r 0)])
 .ret)
 .skip))
 (.seq
 (.reg false [p (.mov (.v 0)),
 p (.mov (.v 8)),
 p (.mov (.v 8)),
 p (.mov (.v 7)),
 p (.bin .add (.r 1) (.r 0)),
 p (.sls (.r 4) (some (.r 3)) (some (.r 0))),
 p (.mov (.v 8)),
 p (.mov (.v 7)),
 p (.bin .add (.r 1) (.r 0)),
 p (.mov (.r 3)),
 p (.mov (.r 1)),
 p (.mov (.k (.int .i64 0)))] [(4, .r 2), (5, .r 1), (6, .r 0)])
 .ret)))))
def r72 : List RV := [.t 4, .t 5, .t 6]
theorem chk72 : Chk Try.prog Try.f72 c72 r72 := ⟨_, rfl, by kernel_rfl, by kernel_rfl⟩
theorem en72 : EnP Try.prog 72 35 c72 r72 := mkEnP (by kernel_rfl) Try.func72 (by kernel_rfl) chk72

/-- `penelope/peneloperef01.power` -/
def c81 : C :=
  (.seq
 (.reg false [p (.mov (.k (.int .i64 0)))] [(0, .v 0)])
 (.seq
 (.reg false [p (.mov (.k (.int .i64 1)))] [(0, .v 0), (3, .r 0)])
 (.seq
 (.seq
 (.reg false [p (.mov (.k (.int .i64 0)))] [(0, .v 0), (3, .v 3), (4, .r 0)])
 (.block 0
 (.loop
 (.seq
 (.seq
 (.reg false [p (.mov (.v 4)),
 p (.mov (.v 0)),
 p (.bin .lss (.r 1) (.r 0))] [(0, .v 0), (3, .v 3), (4, .v 4), (7, .r 0)])
 (.cond (.v 7)
 .skip
 (.exit 0)))
 (.seq
 (.block 1
 (.reg false [p (.mov (.v 3)),
 p (.bin .mul (.r 0) (.k (.int .i64 256))),
 p (.mov (.r 0))] [(0, .v 0), (3, .r 0), (4, .v 4)]))
 (.reg false [p (.mov (.v 4)),
 p (.bin .add (.r 0) (.k (.int .i64 1))),
 p (.mov (.r 0))] [(0, .v 0), (3, .v 3), (4, .r 0)]))))))
 (.frz
 (.seq
 (.reg false [p (.mov (.v 3)),
 p (.mov (.r 0))] [(2, .r 0)])
 .ret)))))
def r81 : List RV := [.t 2]
theorem chk81 : Chk Try.prog Try.f81 c81 r81 := ⟨_, rfl, by kernel_rfl, by kernel_rfl⟩
theorem en81 : EnP Try.prog 81 13 c81 r81 := mkEnP (by kernel_rfl) Try.func81 (by kernel_rfl) chk81


end Go.Proofs.Ytjlpmndipceboaa.Ev
end
section
set_option linter.unusedSimpArgs false
namespace Go.Proofs.Ytjlpmndipceboaa.Ev
open Go
/-- `penelope/sum.On` -/
def c87 : C :=
  (.seq
 (.reg false [p (.mov (.k (.int .u32 0)))] [(0, .v 0), (1, .v 1)])
 (.seq
 (.reg false [p (.mov (.v 0)),
 p (.un .xor (.r 0)),
 p (.mov (.r 0))] [(1, .v 1), (5, .r 0)])
 (.seq
 (.seq
 (.reg false [p (.mov (.v 1)),
 p (.stb (.r 0)),
 p (.len false (.r 0)),
 p (.mov (.k (.int .i64 0)))] [(5, .v 5), (11, .r 2), (12, .r 1), (13, .r 0)])
 (.block 0
 (.loop
 (.seq
 (.reg false [p (.bin .lss (.v 13) (.v 12))] [(5, .v 5), (11, .v 11), (12, .v 12), (13, .v 13), (14, .r 0)])
 (.seq
 (.cond (.v 14)
 .skip
 (.exit 0))
 (.seq
 (.block 1
 (.seq
 (.reg false [p (.iad 1 (.v 11) (.v 13)),
 p (.load (none) (.r 0)),
 p (.mov (.r 0))] [(5, .v 5), (7, .r 0), (11, .v 11), (12, .v 12), (13, .v 13)])
 (.seq
 (.reg false [p (.mov (.v 5)),
 p (.mov (.v 7)),
 p (.cvt .u32 (.r 0)),
 p (.bin .xor (.r 2) (.r 0)),
 p (.mov (.r 0))] [(5, .r 0), (11, .v 11), (12, .v 12), (13, .v 13)])
 (.seq
 (.reg false [p (.mov (.k (.int .i64 0)))] [(5, .v 5), (11, .v 11), (12, .v 12), (13, .v 13), (21, .r 0)])
 (.block 2
 (.loop
 (.seq
 (.reg false [p (.bin .lss (.v 21) (.k (.int .i64 8)))] [(5, .v 5), (11, .v 11), (12, .v 12), (13, .v 13), (21, .v 21), (22, .r 0)])
 (.seq
 (.cond (.v 22)
 .skip
 (.exit 2))
 (.seq
 (.block 3
 (.reg false [p (.mov (.v 5)),
 p (.bin .shr (.r 0) (.k (.int .u64 1))),
 p (.mov (.v 5)),
 p (.bin .and (.r 0) (.k (.int .u32 1))),
 p (.un .neg (.r 0)),
 p (.bin .and (.k (.int .u32 2197175160)) (.r 0)),
 p (.bin .xor (.r 4) (.r 0)),
 p (.mov (.r 0))] [(5, .r 0), (11, .v 11), (12, .v 12), (13, .v 13), (21, .v 21)]))
 (.reg false [p (.bin .add (.v 21) (.k (.int .i64 1))),
 p (.mov (.r 0))] [(5, .v 5), (11, .v 11), (12, .v 12), (13, .v 13), (21, .r 0)]))))))))))
 (.frz
 (.reg false [p (.bin .add (.v 13) (.k (.int .i64 1))),
 p (.mov (.r 0))] [(5, .v 5), (11, .v 11), (12, .v 12), (13, .r 0)]))))))))
 (.frz
 (.seq
 (.reg false [p (.mov (.v 5)),
 p (.un .xor (.r 0)),
 p (.mov (.r 0))] [(4, .r 0)])
 .ret)))))
def r87 : List RV := [.t 4]
theorem chk87 : Chk Try.prog Try.f87 c87 r87 := ⟨_, rfl, by kernel_rfl, by kernel_rfl⟩
theorem en87 : EnP Try.prog 87 34 c87 r87 := mkEnP (by kernel_rfl) Try.func87 (by kernel_rfl) chk87

/-- `penelope/sum.Of` -/
def c80 : C :=
  (.seq
 (.reg false [p (.mov (.k (.int .u32 0)))] [(0, .v 0)])
 (.seq
 (.reg false [p (.mov (.k (.int .u32 0)))] [(0, .v 0), (3, .r 0)])
 (.seq
 (.seq
 (.reg false [p (.mov (.v 0)),
 p (.len false (.r 0)),
 p (.mov (.k (.int .i64 0)))] [(3, .v 3), (6, .r 2), (7, .r 1), (8, .r 0)])
 (.block 0
 (.loop
 (.seq
 (.reg false [p (.bin .lss (.v 8) (.v 7))] [(3, .v 3), (6, .v 6), (7, .v 7), (8, .v 8), (9, .r 0)])
 (.seq
 (.cond (.v 9)
 .skip
 (.exit 0))
 (.seq
 (.block 1
 (.seq
 (.reg false [p (.iad 1 (.v 6) (.v 8)),
 p (.load (none) (.r 0)),
 p (.mov (.r 0))] [(3, .v 3), (5, .r 0), (6, .v 6), (7, .v 7), (8, .v 8)])
 (.reg false [p (.mov (.v 3)),
 p (.mov (.v 5)),
 p (.call true (.k (.fn 87 [] [])) [.r 1, .r 0]),
 p (.mov (.r 0))] [(3, .r 0), (6, .v 6), (7, .v 7), (8, .v 8)])))
 (.reg false [p (.bin .add (.v 8) (.k (.int .i64 1))),
 p (.mov (.r 0))] [(3, .v 3), (6, .v 6), (7, .v 7), (8, .r 0)])))))))
 (.frz
 (.seq
 (.reg false [p (.mov (.v 3)),
 p (.mov (.r 0))] [(2, .r 0)])
 .ret)))))
def r80 : List RV := [.t 2]
theorem chk80 : Chk Try.prog Try.f80 c80 r80 := ⟨_, rfl, by kernel_rfl, by kernel_rfl⟩
theorem en80 : EnP Try.prog 80 17 c80 r80 := mkEnP (by kernel_rfl) Try.func80 (by kernel_rfl) chk80

/-- `penelope/sum.Seal` -/
def c56 : C :=
  (.seq
 (.reg false [p (.mov (.k (.str [])))] [(0, .v 0)])
 (.seq
 (.reg false [p (.mov (.v 0)),
 p (.bsl 1 [.r 0]),
 p (.call true (.k (.fn 80 [] [])) [.r 0]),
 p (.mov (.r 0))] [(0, .v 0), (3, .r 0)])
 (.seq
 (.reg false [p (.mov (.v 0)),
 p (.mov (.v 3)),
 p (.cvt .u8 (.r 0)),
 p (.mov (.v 3)),
 p (.bin .shr (.r 0) (.k (.int .u64 8))),
 p (.cvt .u8 (.r 0)),
 p (.mov (.v 3)),
 p (.bin .shr (.r 0) (.k (.int .u64 16))),
 p (.cvt .u8 (.r 0)),
 p (.mov (.v 3)),
 p (.bin .shr (.r 0) (.k (.int .u64 24))),
 p (.cvt .u8 (.r 0)),
 p (.bsl 1 [.r 9, .r 6, .r 3, .r 0]),
 p (.bts (.r 0)),
 p (.bsl 1 [.r 13, .r 0]),
 p (.call true (.k (.fn 24 [] [])) [.r 0]),
 p (.mov (.r 0))] [(2, .r 0)])
 .ret)))
def r56 : List RV := [.t 2]
theorem chk56 : Chk Try.prog Try.f56 c56 r56 := ⟨_, rfl, by kernel_rfl, by kernel_rfl⟩
theorem en56 : EnP Try.prog 56 23 c56 r56 := mkEnP (by kernel_rfl) Try.func56 (by kernel_rfl) chk56

/-- `penelope/sum.Open` -/
def c63 : C :=
  (.seq
 (.reg false [p (.mov (.k (.str []))),
 p (.mov (.k (.int .i64 0)))] [(0, .v 0)])
 (.seq
 (.reg false [p (.mov (.v 0)),
 p (.len true (.r 0)),
 p (.bin .sub (.r 0) (.k (.int .i64 4))),
 p (.mov (.r 0))] [(0, .v 0), (4, .r 0)])
 (.seq
 (.seq
 (.reg false [p (.mov (.v 4)),
 p (.bin .lss (.r 0) (.k (.int .i64 0)))] [(0, .v 0), (4, .v 4), (9, .r 0)])
 (.cond (.v 9)
 (.seq
 (.reg false [p (.mov (.k (.str []))),
 p (.mov (.k (.int .i64 3)))] [(2, .r 1), (3, .r 0)])
 .ret)
 .skip))
 (.seq
 (.seq
 (.reg false [p (.mov (.v 0)),
 p (.mov (.v 4)),
 p (.sls (.r 1) none (some (.r 0))),
 p (.call true (.k (.fn 56 [] [])) [.r 0]),
 p (.mov (.v 0)),
 p (.bin .neq (.r 1) (.r 0))] [(0, .v 0), (4, .v 4), (15, .r 0)])
 (.cond (.v 15)
 (.seq
 (.reg false [p (.mov (.k (.str []))),
 p (.mov (.k (.int .i64 41)))] [(2, .r 1), (3, .r 0)])
 .ret)
 .skip))
 (.seq
 (.reg false [p (.mov (.v 0)),
 p (.mov (.v 4)),
 p (.sls (.r 1) none (some (.r 0))),
 p (.mov (.r 0)),
 p (.mov (.k (.int .i64 0)))] [(2, .r 1), (3, .r 0)])
 .ret)))))
def r63 : List RV := [.t 2, .t 3]
theorem chk63 : Chk Try.prog Try.f63 c63 r63 := ⟨_, rfl, by kernel_rfl, by kernel_rfl⟩
theorem en63 : EnP Try.prog 63 19 c63 r63 := mkEnP (by kernel_rfl) Try.func63 (by kernel_rfl) chk63

/-- `penelope/peneloperef02.On` -/
def c82 : C :=
  (.seq
 (.reg false [p (.mov (.k (.int .u32 0)))] [(0, .v 0), (1, .v 1)])
 (.seq
 (.reg false [p (.mov (.v 0)),
 p (.bin .sub (.k (.int .u32 4294967295)) (.r 0)),
 p (.mov (.r 0))] [(1, .v 1), (5, .r 0)])
 (.seq
 (.seq
 (.reg false [p (.mov (.k (.int .i64 0)))] [(1, .v 1), (5, .v 5), (6, .r 0)])
 (.block 0
 (.loop
 (.seq
 (.seq
 (.reg false [p (.mov (.v 6)),
 p (.mov (.v 1)),
 p (.len true (.r 0)),
 p (.bin .lss (.r 2) (.r 0))] [(1, .v 1), (5, .v 5), (6, .v 6), (15, .r 0)])
 (.cond (.v 15)
 .skip
 (.exit 0)))
 (.seq
 (.block 1
 (.seq
 (.reg false [p (.mov (.k (.int .i64 0)))] [(1, .v 1), (5, .v 5), (6, .v 6), (7, .r 0)])
 (.block 2
 (.loop
 (.seq
 (.seq
 (.reg false [p (.mov (.v 7)),
 p (.bin .lss (.r 0) (.k (.int .i64 8)))] [(1, .v 1), (5, .v 5), (6, .v 6), (7, .v 7), (19, .r 0)])
 (.cond (.v 19)
 .skip
 (.exit 2)))
 (.seq
 (.block 3
 (.seq
 (.reg false [p (.mov (.v 1)),
 p (.mov (.v 6)),
 p (.ixs (.r 1) (.r 0)),
 p (.cvt .u32 (.r 0)),
 p (.mov (.v 7)),
 p (.cvt .u64 (.r 0)),
 p (.bin .shr (.r 2) (.r 0)),
 p (.bin .rem (.r 0) (.k (.int .u32 2))),
 p (.mov (.r 0))] [(1, .v 1), (5, .v 5), (6, .v 6), (7, .v 7), (8, .r 0)])
 (.seq
 (.reg false [p (.mov (.v 5)),
 p (.bin .rem (.r 0) (.k (.int .u32 2))),
 p (.mov (.r 0))] [(1, .v 1), (5, .v 5), (6, .v 6), (7, .v 7), (8, .v 8), (9, .r 0)])
 (.seq
 (.reg false [p (.mov (.v 5)),
 p (.bin .quo (.r 0) (.k (.int .u32 2))),
 p (.mov (.r 0))] [(1, .v 1), (5, .r 0), (6, .v 6), (7, .v 7), (8, .v 8), (9, .v 9)])
 (.seq
 (.reg false [p (.mov (.v 9)),
 p (.mov (.v 8)),
 p (.bin .neq (.r 1) (.r 0))] [(1, .v 1), (5, .v 5), (6, .v 6), (7, .v 7), (36, .r 0)])
 (.cond (.v 36)
 (.reg false [p (.mov (.v 5)),
 p (.bin .xor (.r 0) (.k (.int .u32 2197175160))),
 p (.mov (.r 0))] [(1, .v 1), (5, .r 0), (6, .v 6), (7, .v 7)])
 .skip))))))
 (.reg false [p (.mov (.v 7)),
 p (.bin .add (.r 0) (.k (.int .i64 1))),
 p (.mov (.r 0))] [(1, .v 1), (5, .v 5), (6, .v 6), (7, .r 0)])))))))
 (.frz
 (.reg false [p (.mov (.v 6)),
 p (.bin .add (.r 0) (.k (.int .i64 1))),
 p (.mov (.r 0))] [(1, .v 1), (5, .v 5), (6, .r 0)])))))))
 (.frz
 (.seq
 (.reg false [p (.mov (.v 5)),
 p (.bin .sub (.k (.int .u32 4294967295)) (.r 0)),
 p (.mov (.r 0))] [(4, .r 0)])
 .ret)))))
def r82 : List RV := [.t 4]
theorem chk82 : Chk Try.prog Try.f82 c82 r82 := ⟨_, rfl, by kernel_rfl, by kernel_rfl⟩
theorem en82 : EnP Try.prog 82 41 c82 r82 := mkEnP (by kernel_rfl) Try.func82 (by kernel_rfl) chk82

/-- `penelope/peneloperef02.Of` -/
def c62 : C :=
  (.seq
 (.reg false [p (.mov (.k (.int .u32 0)))] [(0, .v 0)])
 (.seq
 (.reg false [p (.mov (.v 0)),
 p (.call true (.k (.fn 82 [] [])) [.k (.int .u32 0), .r 0]),
 p (.mov (.r 0))] [(2, .r 0)])
 .ret))
def r62 : List RV := [.t 2]
theorem chk62 : Chk Try.prog Try.f62 c62 r62 := ⟨_, rfl, by kernel_rfl, by kernel_rfl⟩
theorem en62 : EnP Try.prog 62 5 c62 r62 := mkEnP (by kernel_rfl) Try.func62 (by kernel_rfl) chk62

/-- `penelope/peneloperef02.Seal` -/
def c33 : C :=
  (.seq
 (.reg false [p (.mov (.k (.str [])))] [(0, .v 0)])
 (.seq
 (.reg false [p (.mov (.v 0)),
 p (.call true (.k (.fn 62 [] [])) [.r 0]),
 p (.mov (.r 0))] [(0, .v 0), (3, .r 0)])
 (.seq
 (.reg false [p (.mov (.v 3)),
 p (.bin .rem (.r 0) (.k (.int .u32 256))),
 p (.cvt .u8 (.r 0)),
 p (.mov (.v 3)),
 p (.bin .quo (.r 0) (.k (.int .u32 256))),
 p (.bin .rem (.r 0) (.k (.int .u32 256))),
 p (.cvt .u8 (.r 0)),
 p (.mov (.v 3)),
 p (.bin .quo (.r 0) (.k (.int .u32 65536))),
 p (.bin .rem (.r 0) (.k (.int .u32 256))),
 p (.cvt .u8 (.r 0)),
 p (.mov (.v 3)),
 p (.bin .quo (.r 0) (.k (.int .u32 16777216))),
 p (.cvt .u8 (.r 0)),
 p (.bsl 1 [.r 11, .r 7, .r 3, .r 0]),
 p (.mov (.r 0))] [(0, .v 0), (4, .r 0)])
 (.seq
 (.reg false [p (.mov (.v 0)),
 p (.mov (.v 4)),
 p (.bts (.r 0)),
 p (.bin .add (.r 2) (.r 0)),
 p (.mov (.r 0))] [(2, .r 0)])
 .ret))))
def r33 : List RV := [.t 2]
theorem chk33 : Chk Try.prog Try.f33 c33 r33 := ⟨_, rfl, by kernel_rfl, by kernel_rfl⟩
theorem en33 : EnP Try.prog 33 26 c33 r33 := mkEnP (by kernel_rfl) Try.func33 (by kernel_rfl) chk33

/-- `penelope/peneloperef02.Open` -/
def c39 : C :=
  (.seq
 (.reg false [p (.mov (.k (.str []))),
 p (.mov (.k (.int .i64 0)))] [(0, .v 0)])
 (.seq
 (.seq
 (.reg false [p (.mov (.v 0)),
 p (.len true (.r 0)),
 p (.bin .lss (.r 0) (.k (.int .i64 4)))] [(0, .v 0), (7, .r 0)])
 (.cond (.v 7)
 (.seq
 (.reg false [p (.mov (.k (.str []))),
 p (.mov (.k (.int .i64 3)))] [(2, .r 1), (3, .r 0)])
 .ret)
 .skip))
 (.seq
 (.reg false [p (.mov (.v 0)),
 p (.mov (.v 0)),
 p (.len true (.r 0)),
 p (.bin .sub (.r 0) (.k (.int .i64 4))),
 p (.sls (.r 3) none (some (.r 0))),
 p (.mov (.r 0))] [(0, .v 0), (4, .r 0)])
 (.seq
 (.seq
 (.reg false [p (.mov (.v 4)),
 p (.call true (.k (.fn 33 [] [])) [.r 0]),
 p (.mov (.v 0)),
 p (.bin .neq (.r 1) (.r 0))] [(4, .v 4), (16, .r 0)])
 (.cond (.v 16)
 (.seq
 (.reg false [p (.mov (.k (.str []))),
 p (.mov (.k (.int .i64 41)))] [(2, .r 1), (3, .r 0)])
 .ret)
 .skip))
 (.seq
 (.reg false [p (.mov (.v 4)),
 p (.mov (.r 0)),
 p (.mov (.k (.int .i64 0)))] [(2, .r 1), (3, .r 0)])
 .ret)))))
def r39 : List RV := [.t 2, .t 3]
theorem chk39 : Chk Try.prog Try.f39 c39 r39 := ⟨_, rfl, by kernel_rfl, by kernel_rfl⟩
theorem en39 : EnP Try.prog 39 18 c39 r39 := mkEnP (by kernel_rfl) Try.func39 (by kernel_rfl) chk39


end Go.Proofs.Ytjlpmndipceboaa.Ev
end
section
set_option linter.unusedSimpArgs false
namespace Go.Proofs.Ytjlpmndipceboaa.Ev
open Go
/-- `slices.IndexFunc[[]int,int]` -/
def c92 : C :=
  (.seq
 (.reg false [p (.mov (.k (.int .i64 0)))] [(0, .v 0), (1, .v 1)])
 (.seq
 (.seq
 (.reg false [p (.mov (.v 0)),
 p (.len false (.r 0)),
 p (.mov (.k (.int .i64 0)))] [(0, .v 0), (1, .v 1), (7, .r 1), (8, .r 0)])
 (.block 0
 (.loop
 (.seq
 (.reg false [p (.bin .lss (.v 8) (.v 7))] [(0, .v 0), (1, .v 1), (7, .v 7), (8, .v 8), (9, .r 0)])
 (.seq
 (.cond (.v 9)
 .skip
 (.exit 0))
 (.seq
 (.block 1
 (.seq
 (.reg false [p (.mov (.v 8)),
 p (.mov (.r 0))] [(0, .v 0), (1, .v 1), (5, .r 0), (7, .v 7), (8, .v 8)])
 (.seq
 (.reg false [p (.mov (.v 1)),
 p (.mov (.v 0)),
 p (.mov (.v 5)),
 p (.iad 1 (.r 1) (.r 0)),
 p (.load (none) (.r 0)),
 p (.call false (.r 4) [.r 0])] [(0, .v 0), (1, .v 1), (5, .v 5), (7, .v 7), (8, .v 8), (16, .r 0)])
 (.cond (.v 16)
 (.seq
 (.reg false [p (.mov (.v 5)),
 p (.mov (.r 0))] [(4, .r 0)])
 .ret)
 .skip))))
 (.reg false [p (.bin .add (.v 8) (.k (.int .i64 1))),
 p (.mov (.r 0))] [(0, .v 0), (1, .v 1), (7, .v 7), (8, .r 0)])))))))
 (.frz
 (.seq
 (.reg false [p (.mov (.k (.int .i64 (-1))))] [(4, .r 0)])
 .ret))))
def r92 : List RV := [.t 4]
theorem chk92 : Chk Try.prog Try.f92 c92 r92 := ⟨_, rfl, by kernel_rfl, by kernel_rfl⟩
theorem ena92 : EnA Try.prog 92 19 c92 r92 := mkEnA (by kernel_rfl) Try.func92 (by kernel_rfl) chk92
theorem en92 : EnP Try.prog 92 19 c92 r92 := mkEnP (by kernel_rfl) Try.func92 (by kernel_rfl) chk92

/-- `slices.ContainsFunc[[]int,int]` -/
def c89 : C :=
  (.seq
 (.reg false [p (.mov (.k (.bool false)))] [(0, .v 0), (1, .v 1)])
 (.seq
 (.reg false [p (.mov (.v 0)),
 p (.mov (.v 1)),
 p (.call false (.k (.fn 92 [] [])) [.r 1, .r 0]),
 p (.bin .geq (.r 0) (.k (.int .i64 0))),
 p (.mov (.r 0))] [(4, .r 0)])
 .ret))
def r89 : List RV := [.t 4]
theorem chk89 : Chk Try.prog Try.f89 c89 r89 := ⟨_, rfl, by kernel_rfl, by kernel_rfl⟩
theorem ena89 : EnA Try.prog 89 9 c89 r89 := mkEnA (by kernel_rfl) Try.func89 (by kernel_rfl) chk89
theorem en89 : EnP Try.prog 89 9 c89 r89 := mkEnP (by kernel_rfl) Try.func89 (by kernel_rfl) chk89

/-- `slices.IndexFunc[[]penelope/api.Task,penelope/api.Task]` -/
def c83 : C :=
  (.seq
 (.reg false [p (.mov (.k (.int .i64 0)))] [(0, .v 0), (1, .v 1)])
 (.seq
 (.seq
 (.reg false [p (.mov (.v 0)),
 p (.len false (.r 0)),
 p (.mov (.k (.int .i64 0)))] [(0, .v 0), (1, .v 1), (7, .r 1), (8, .r 0)])
 (.block 0
 (.loop
 (.seq
 (.reg false [p (.bin .lss (.v 8) (.v 7))] [(0, .v 0), (1, .v 1), (7, .v 7), (8, .v 8), (9, .r 0)])
 (.seq
 (.cond (.v 9)
 .skip
 (.exit 0))
 (.seq
 (.block 1
 (.seq
 (.reg false [p (.mov (.v 8)),
 p (.mov (.r 0))] [(0, .v 0), (1, .v 1), (5, .r 0), (7, .v 7), (8, .v 8)])
 (.seq
 (.reg false [p (.mov (.v 1)),
 p (.mov (.v 0)),
 p (.mov (.v 5)),
 p (.iad 4 (.r 1) (.r 0)),
 p (.load (some 4) (.r 0)),
 p (.call false (.r 4) [.r 0])] [(0, .v 0), (1, .v 1), (5, .v 5), (7, .v 7), (8, .v 8), (16, .r 0)])
 (.cond (.v 16)
 (.seq
 (.reg false [p (.mov (.v 5)),
 p (.mov (.r 0))] [(4, .r 0)])
 .ret)
 .skip))))
 (.reg false [p (.bin .add (.v 8) (.k (.int .i64 1))),
 p (.mov (.r 0))] [(0, .v 0), (1, .v 1), (7, .v 7), (8, .r 0)])))))))
 (.frz
 (.seq
 (.reg false [p (.mov (.k (.int .i64 (-1))))] [(4, .r 0)])
 .ret))))
def r83 : List RV := [.t 4]
theorem chk83 : Chk Try.prog Try.f83 c83 r83 := ⟨_, rfl, by kernel_rfl, by kernel_rfl⟩
theorem ena83 : EnA Try.prog 83 19 c83 r83 := mkEnA (by kernel_rfl) Try.func83 (by kernel_rfl) chk83
theorem en83 : EnP Try.prog 83 19 c83 r83 := mkEnP (by kernel_rfl) Try.func83 (by kernel_rfl) chk83

/-- `slices.ContainsFunc[[]penelope/api.Task,penelope/api.Task]` -/
def c73 : C :=
  (.seq
 (.reg false [p (.mov (.k (.bool false)))] [(0, .v 0), (1, .v 1)])
 (.seq
 (.reg false [p (.mov (.v 0)),
 p (.mov (.v 1)),
 p (.call false (.k (.fn 83 [] [])) [.r 1, .r 0]),
 p (.bin .geq (.r 0) (.k (.int .i64 0))),
 p (.mov (.r 0))] [(4, .r 0)])
 .ret))
def r73 : List RV := [.t 4]
theorem chk73 : Chk Try.prog Try.f73 c73 r73 := ⟨_, rfl, by kernel_rfl, by kernel_rfl⟩
theorem ena73 : EnA Try.prog 73 9 c73 r73 := mkEnA (by kernel_rfl) Try.func73 (by kernel_rfl) chk73
theorem en73 : EnP Try.prog 73 9 c73 r73 := mkEnP (by kernel_rfl) Try.func73 (by kernel_rfl) chk73

/-- `penelope/dag.task` -/
def c75 : C :=
  (.seq
 (.reg false [p (.box 4 (.v 0)),
 p (.mov (.k (.bool false)))] [(1, .v 1), (2, .r 1)])
 (.seq
 (.reg false [p (.mov (.k (.int .i64 (-1))))] [(1, .v 1), (2, .v 2), (5, .r 0)])
 (.seq
 (.seq
 (.reg false [p (.fad 0 (.v 2)),
 p (.load (none) (.r 0)),
 p (.len false (.r 0)),
 p (.mov (.k (.int .i64 0)))] [(1, .v 1), (2, .v 2), (5, .v 5), (9, .r 2), (10, .r 1), (11, .r 0)])
 (.block 0
 (.loop
 (.seq
 (.reg false [p (.bin .lss (.v 11) (.v 10))] [(1, .v 1), (2, .v 2), (5, .v 5), (9, .v 9), (10, .v 10), (11, .v 11), (12, .r 0)])
 (.seq
 (.cond (.v 12)
 .skip
 (.exit 0))
 (.seq
 (.block 1
 (.seq
 (.reg false [p (.iad 1 (.v 9) (.v 11)),
 p (.load (none) (.r 0)),
 p (.mov (.r 0))] [(1, .v 1), (2, .v 2), (5, .v 5), (7, .r 0), (9, .v 9), (10, .v 10), (11, .v 11)])
 (.seq
 (.seq
 (.reg false [p (.mov (.v 7)),
 p (.mov (.v 5)),
 p (.bin .leq (.r 1) (.r 0)),
 p (.mov (.r 0)),
 ⟨.mov (.v 7), some (0, false), []⟩,
 ⟨.mov (.v 1), some (1, false), []⟩,
 ⟨.bin .geq (.r 1) (.r 0), some (2, false), []⟩,
 p (.pick (.r 3) (.k (.bool true)) (.r 0))] [(1, .v 1), (2, .v 2), (7, .v 7), (9, .v 9), (10, .v 10), (11, .v 11), (22, .r 0)])
 (.cond (.v 22)
 (.seq
 (.reg false [p (.mov (.k (.bool false)))] [(4, .r 0)])
 .ret)
 .skip))
 (.reg false [p (.mov (.v 7)),
 p (.mov (.r 0))] [(1, .v 1), (2, .v 2), (5, .r 0), (9, .v 9), (10, .v 10), (11, .v 11)]))))
 (.reg false [p (.bin .add (.v 11) (.k (.int .i64 1))),
 p (.mov (.r 0))] [(1, .v 1), (2, .v 2), (5, .v 5), (9, .v 9), (10, .v 10), (11, .r 0)])))))))
 (.frz
 (.seq
 (.reg false [p (.fad 1 (.v 2)),
 p (.load (none) (.r 0)),
 p (.bin .geq (.r 0) (.k (.int .i64 1))),
 p (.mov (.r 0)),
 ⟨.fad 1 (.v 2), some (0, true), []⟩,
 ⟨.load (none) (.r 0), some (1, true), []⟩,
 ⟨.bin .leq (.r 0) (.k (.int .i64 8)), some (2, true), []⟩,
 p (.pick (.r 3) (.r 0) (.k (.bool false))),
 p (.mov (.r 0)),
 ⟨.fad 2 (.v 2), some (0, true), []⟩,
 ⟨.load (none) (.r 0), some (1, true), []⟩,
 ⟨.bin .geq (.r 0) (.k (.int .i64 0)), some (2, true), []⟩,
 p (.pick (.r 3) (.r 0) (.k (.bool false))),
 p (.mov (.r 0)),
 ⟨.fad 2 (.v 2), some (0, true), []⟩,
 ⟨.load (none) (.r 0), some (1, true), []⟩,
 ⟨.bin .leq (.r 0) (.k (.int .i64 1048576)), some (2, true), []⟩,
 p (.pick (.r 3) (.r 0) (.k (.bool false))),
 p (.mov (.r 0)),
 ⟨.fad 3 (.v 2), some (0, true), []⟩,
 ⟨.load (none) (.r 0), some (1, true), []⟩,
 ⟨.bin .geq (.r 0) (.k (.int .i64 1)), some (2, true), []⟩,
 p (.pick (.r 3) (.r 0) (.k (.bool false))),
 p (.mov (.r 0)),
 ⟨.fad 3 (.v 2), some (0, true), []⟩,
 ⟨.load (none) (.r 0), some (1, true), []⟩,
 ⟨.bin .leq (.r 0) (.k (.int .i64 1048576)), some (2, true), []⟩,
 p (.pick (.r 3) (.r 0) (.k (.bool false))),
 p (.mov (.r 0))] [(4, .r 0)])
 .ret)))))
def r75 : List RV := [.t 4]
theorem chk75 : Chk Try.prog Try.f75 c75 r75 := ⟨_, rfl, by kernel_rfl, by kernel_rfl⟩
theorem en75 : EnP Try.prog 75 53 c75 r75 := mkEnP (by kernel_rfl) Try.func75 (by kernel_rfl) chk75

/-- `penelope/dag.free$1` -/
def c88 : C :=
  (.seq
 (.reg false [p (.mov (.k (.bool false)))] [(0, .v 0), (1, .v 1)])
 (.seq
 (.reg false [p (.load (none) (.v 1)),
 p (.mov (.v 0)),
 p (.iad 1 (.r 1) (.r 0)),
 p (.load (none) (.r 0)),
 p (.un .not (.r 0)),
 p (.mov (.r 0))] [(3, .r 0)])
 .ret))
def r88 : List RV := [.t 3]
theorem chk88 : Chk Try.prog Try.f88 c88 r88 := ⟨_, rfl, by kernel_rfl, by kernel_rfl⟩
theorem ena88 : EnA Try.prog 88 9 c88 r88 := mkEnA (by kernel_rfl) Try.func88 (by kernel_rfl) chk88
theorem en88 : EnP Try.prog 88 9 c88 r88 := mkEnP (by kernel_rfl) Try.func88 (by kernel_rfl) chk88

/-- `penelope/dag.free` -/
def c84 : C :=
  (.seq
 (.reg false [p (.box 1 (.v 1)),
 p (.mov (.k (.fsl .nil 1 [])))] [(0, .v 0), (3, .r 1)])
 (.seq
 (.reg false [p (.mkf 88 [] [.v 3]),
 p (.mov (.r 0))] [(0, .v 0), (5, .r 0)])
 (.seq
 (.reg false [p (.mov (.k (.fsl .nil 1 [])))] [(0, .v 0), (5, .v 5), (6, .r 0)])
 (.seq
 (.seq
 (.reg false [p (.mov (.v 0)),
 p (.len false (.r 0)),
 p (.mov (.k (.int .i64 0)))] [(5, .v 5), (6, .v 6), (10, .r 2), (11, .r 1), (12, .r 0)])
 (.block 0
 (.loop
 (.seq
 (.reg false [p (.bin .lss (.v 12) (.v 11))] [(5, .v 5), (6, .v 6), (10, .v 10), (11, .v 11), (12, .v 12), (13, .r 0)])
 (.seq
 (.cond (.v 13)
 .skip
 (.exit 0))
 (.seq
 (.block 1
 (.seq
 (.reg false [p (.mov (.v 12)),
 p (.iad 4 (.v 10) (.v 12)),
 p (.load (some 4) (.r 0)),
 p (.alloc 4 (.agg [.fsl .nil 1 [], .int .i64 0, .int .i64 0, .int .i64 0])),
 p (.mov (.r 3)),
 p (.store (some 4) (.r 1) (.r 2))] [(5, .v 5), (6, .v 6), (7, .r 1), (8, .r 2), (10, .v 10), (11, .v 11), (12, .v 12)])
 (.seq
 (.reg false [p (.mov (.v 5)),
 p (.mov (.v 7)),
 p (.call false (.r 1) [.r 0]),
 p (.mov (.r 0)),
 ⟨.fad 0 (.v 8), some (0, true), []⟩,
 ⟨.load (none) (.r 0), some (1, true), []⟩,
 ⟨.mov (.v 5), some (2, true), []⟩,
 ⟨.call false (.k (.fn 89 [] [])) [.r 1, .r 0], some (3, true), []⟩,
 ⟨.un .not (.r 0), some (4, true), []⟩,
 p (.pick (.r 5) (.r 0) (.k (.bool false)))] [(5, .v 5), (6, .v 6), (7, .v 7), (10, .v 10), (11, .v 11), (12, .v 12), (26, .r 0)])
 (.cond (.v 26)
 (.reg false [p (.mov (.v 6)),
 p (.mov (.v 7)),
 p (.bsl 1 [.r 0]),
 p (.app 1 8 (.r 2) (.r 0)),
 p (.mov (.r 0))] [(5, .v 5), (6, .r 0), (10, .v 10), (11, .v 11), (12, .v 12)])
 .skip))))
 (.reg false [p (.bin .add (.v 12) (.k (.int .i64 1))),
 p (.mov (.r 0))] [(5, .v 5), (6, .v 6), (10, .v 10), (11, .v 11), (12, .r 0)])))))))
 (.frz
 (.seq
 (.reg false [p (.mov (.v 6)),
 p (.mov (.r 0))] [(4, .r 0)])
 .ret))))))
def r84 : List RV := [.t 4]
theorem chk84 : Chk Try.prog Try.f84 c84 r84 := ⟨_, rfl, by kernel_rfl, by kernel_rfl⟩
theorem ena84 : EnA Try.prog 84 33 c84 r84 := mkEnA (by kernel_rfl) Try.func84 (by kernel_rfl) chk84
theorem en84 : EnP Try.prog 84 33 c84 r84 := mkEnP (by kernel_rfl) Try.func84 (by kernel_rfl) chk84

/-- `penelope/dag.order` -/
def c76 : C :=
  (.seq
 (.reg false [p (.mov (.k (.fsl .nil 1 [])))] [(0, .v 0)])
 (.seq
 (.reg false [p (.mov (.v 0)),
 p (.len false (.r 0)),
 p (.mks 1 1 (.bool false) (.r 0)),
 p (.mov (.r 0))] [(0, .v 0), (3, .r 0)])
 (.seq
 (.reg false [p (.mov (.k (.fsl .nil 1 [])))] [(0, .v 0), (3, .v 3), (4, .r 0)])
 (.block 0
 (.loop
 (.block 1
 (.seq
 (.reg false [p (.mov (.v 0)),
 p (.mov (.v 3)),
 p (.call false (.k (.fn 84 [] [])) [.r 1, .r 0]),
 p (.mov (.r 0))] [(0, .v 0), (3, .v 3), (4, .v 4), (5, .r 0)])
 (.seq
 (.seq
 (.reg false [p (.mov (.v 5)),
 p (.len false (.r 0)),
 p (.bin .eql (.r 0) (.k (.int .i64 0)))] [(0, .v 0), (3, .v 3), (4, .v 4), (5, .v 5), (14, .r 0)])
 (.cond (.v 14)
 (.seq
 (.reg false [p (.mov (.v 4)),
 p (.mov (.r 0))] [(2, .r 0)])
 .ret)
 .skip))
 (.seq
 (.reg false [p (.mov (.v 3)),
 p (.mov (.v 5)),
 p (.iad 1 (.r 0) (.k (.int .i64 0))),
 p (.load (none) (.r 0)),
 p (.iad 1 (.r 3) (.r 0)),
 p (.store (none) (.r 0) (.k (.bool true)))] [(0, .v 0), (3, .v 3), (4, .v 4), (5, .v 5)])
 (.reg false [p (.mov (.v 4)),
 p (.mov (.v 5)),
 p (.iad 1 (.r 0) (.k (.int .i64 0))),
 p (.load (none) (.r 0)),
 p (.bsl 1 [.r 0]),
 p (.app 1 8 (.r 4) (.r 0)),
 p (.mov (.r 0))] [(0, .v 0), (3, .v 3), (4, .r 0)]))))))))))
def r76 : List RV := [.t 2]
theorem chk76 : Chk Try.prog Try.f76 c76 r76 := ⟨_, rfl, by kernel_rfl, by kernel_rfl⟩
theorem en76 : EnP Try.prog 76 27 c76 r76 := mkEnP (by kernel_rfl) Try.func76 (by kernel_rfl) chk76

/-- `penelope/dag.Right$1` -/
def c74 : C :=
  (.seq
 (.reg false [p (.box 4 (.v 0)),
 p (.mov (.k (.bool false)))] [(1, .v 1), (2, .r 1)])
 (.seq
 (.reg false [p (.load (some 4) (.v 2)),
 p (.load (none) (.v 1)),
 p (.call true (.k (.fn 75 [] [])) [.r 1, .r 0]),
 p (.un .not (.r 0)),
 p (.mov (.r 0))] [(3, .r 0)])
 .ret))
def r74 : List RV := [.t 3]
theorem chk74 : Chk Try.prog Try.f74 c74 r74 := ⟨_, rfl, by kernel_rfl, by kernel_rfl⟩
theorem ena74 : EnA Try.prog 74 8 c74 r74 := mkEnA (by kernel_rfl) Try.func74 (by kernel_rfl) chk74
theorem en74 : EnP Try.prog 74 8 c74 r74 := mkEnP (by kernel_rfl) Try.func74 (by kernel_rfl) chk74

/-- `penelope/dag.Right` -/
def c52 : C :=
  (.seq
 (.reg false [p (.box 2 (.v 0)),
 p (.mov (.k (.int .i64 0)))] [(1, .r 1)])
 (.seq
 (.reg false [p (.fad 1 (.v 1)),
 p (.load (none) (.r 0)),
 p (.len false (.r 0)),
 p (.alloc 1 (.int .i64 0)),
 p (.store (none) (.r 0) (.r 1))] [(1, .v 1), (3, .r 1)])
 (.seq
 (.block 0
 (.seq
 (.reg false [p (.load (none) (.v 3)),
 p (.bin .gtr (.r 0) (.k (.int .i64 10))),
 p (.mov (.r 0))] [(1, .v 1), (3, .v 3), (7, .r 0)])
 (.cond (.v 7)
 (.seq
 (.reg false [p (.mov (.k (.int .i64 2)))] [(2, .r 0)])
 .ret)
 (.seq
 (.reg false [p (.load (none) (.v 3)),
 p (.bin .lss (.r 0) (.k (.int .i64 1))),
 p (.mov (.r 0)),
 ⟨.fad 0 (.v 1), some (0, false), []⟩,
 ⟨.load (none) (.r 0), some (1, false), []⟩,
 ⟨.len true (.r 0), some (2, false), []⟩,
 ⟨.bin .lss (.r 0) (.k (.int .i64 1)), some (3, false), []⟩,
 p (.pick (.r 4) (.k (.bool true)) (.r 0)),
 p (.mov (.r 0)),
 ⟨.fad 0 (.v 1), some (0, false), []⟩,
 ⟨.load (none) (.r 0), some (1, false), []⟩,
 ⟨.len true (.r 0), some (2, false), []⟩,
 ⟨.bin .gtr (.r 0) (.k (.int .i64 16)), some (3, false), []⟩,
 p (.pick (.r 4) (.k (.bool true)) (.r 0)),
 p (.mov (.r 0)),
 ⟨.fad 1 (.v 1), some (0, false), []⟩,
 ⟨.load (none) (.r 0), some (1, false), []⟩,
 ⟨.mkf 74 [] [.v 3], some (2, false), []⟩,
 ⟨.call false (.k (.fn 73 [] [])) [.r 1, .r 0], some (3, false), []⟩,
 p (.pick (.r 4) (.k (.bool true)) (.r 0)),
 p (.mov (.r 0))] [(1, .v 1), (3, .v 3), (10, .r 0)])
 (.cond (.v 10)
 (.seq
 (.reg false [p (.mov (.k (.int .i64 1)))] [(2, .r 0)])
 .ret)
 (.seq
 (.reg true [p (.fad 1 (.v 1)),
 p (.load (none) (.r 0)),
 p (.call true (.k (.fn 76 [] [])) [.r 0]),
 p (.len false (.r 0)),
 p (.load (none) (.v 3)),
 p (.bin .lss (.r 1) (.r 0)),
 p (.mov (.r 0))] [(31, .r 0)])
 (.cond (.v 31)
 (.seq
 (.reg false [p (.mov (.k (.int .i64 160)))] [(2, .r 0)])
 .ret)
 .skip)))))))
 (.seq
 (.reg false [p (.mov (.k (.int .i64 0)))] [(2, .r 0)])
 .ret))))
def r52 : List RV := [.t 2]
theorem chk52 : Chk Try.prog Try.f52 c52 r52 := ⟨_, rfl, by kernel_rfl, by kernel_rfl⟩
theorem en52 : EnP Try.prog 52 38 c52 r52 := mkEnP (by kernel_rfl) Try.func52 (by kernel_rfl) chk52

/-- `penelope/peneloperef16.shaped` -/
def c57 : C :=
  (.seq
 (.reg false [p (.box 2 (.v 0)),
 p (.mov (.k (.bool false)))] [(1, .r 1)])
 (.seq
 (.reg false [p (.fad 1 (.v 1)),
 p (.load (none) (.r 0)),
 p (.len false (.r 0)),
 p (.mov (.r 0))] [(1, .v 1), (3, .r 0)])
 (.seq
 (.seq
 (.reg false [p (.mov (.v 3)),
 p (.bin .lss (.r 0) (.k (.int .i64 1))),
 p (.mov (.r 0)),
 ⟨.fad 0 (.v 1), some (0, false), []⟩,
 ⟨.load (none) (.r 0), some (1, false), []⟩,
 ⟨.len true (.r 0), some (2, false), []⟩,
 ⟨.bin .lss (.r 0) (.k (.int .i64 1)), some (3, false), []⟩,
 p (.pick (.r 4) (.k (.bool true)) (.r 0)),
 p (.mov (.r 0)),
 ⟨.fad 0 (.v 1), some (0, false), []⟩,
 ⟨.load (none) (.r 0), some (1, false), []⟩,
 ⟨.len true (.r 0), some (2, false), []⟩,
 ⟨.bin .gtr (.r 0) (.k (.int .i64 16)), some (3, false), []⟩,
 p (.pick (.r 4) (.k (.bool true)) (.r 0))] [(1, .v 1), (3, .v 3), (24, .r 0)])
 (.cond (.v 24)
 (.seq
 (.reg false [p (.mov (.k (.bool false)))] [(2, .r 0)])
 .ret)
 .skip))
 (.seq
 (.seq
 (.reg false [p (.fad 1 (.v 1)),
 p (.load (none) (.r 0)),
 p (.len false (.r 0)),
 p (.mov (.k (.int .i64 0)))] [(3, .v 3), (26, .r 2), (27, .r 1), (28, .r 0)])
 (.block 0
 (.loop
 (.seq
 (.reg false [p (.bin .lss (.v 28) (.v 27))] [(3, .v 3), (26, .v 26), (27, .v 27), (28, .v 28), (29, .r 0)])
 (.seq
 (.cond (.v 29)
 .skip
 (.exit 0))
 (.seq
 (.block 1
 (.seq
 (.reg false [p (.iad 4 (.v 26) (.v 28)),
 p (.load (some 4) (.r 0)),
 p (.alloc 4 (.agg [.fsl .nil 1 [], .int .i64 0, .int .i64 0, .int .i64 0])),
 p (.store (some 4) (.r 0) (.r 1))] [(3, .v 3), (5, .r 1), (26, .v 26), (27, .v 27), (28, .v 28)])
 (.seq
 (.seq
 (.reg false [p (.fad 0 (.v 5)),
 p (.load (none) (.r 0)),
 p (.len false (.r 0)),
 p (.mov (.k (.int .i64 0)))] [(3, .v 3), (5, .v 5), (26, .v 26), (27, .v 27), (28, .v 28), (33, .r 2), (34, .r 1), (35, .r 0)])
 (.block 2
 (.loop
 (.seq
 (.reg false [p (.bin .lss (.v 35) (.v 34))] [(3, .v 3), (5, .v 5), (26, .v 26), (27, .v 27), (28, .v 28), (33, .v 33), (34, .v 34), (35, .v 35), (36, .r 0)])
 (.seq
 (.cond (.v 36)
 .skip
 (.exit 2))
 (.seq
 (.block 3
 (.seq
 (.reg false [p (.mov (.v 35)),
 p (.iad 1 (.v 33) (.v 35)),
 p (.load (none) (.r 0)),
 p (.mov (.r 2)),
 p (.mov (.r 1))] [(3, .v 3), (5, .v 5), (6, .r 1), (7, .r 0), (26, .v 26), (27, .v 27), (28, .v 28), (33, .v 33), (34, .v 34), (35, .v 35)])
 (.seq
 (.reg false [p (.mov (.v 7)),
 p (.bin .lss (.r 0) (.k (.int .i64 0))),
 p (.mov (.r 0)),
 ⟨.mov (.v 7), some (0, false), []⟩,
 ⟨.mov (.v 3), some (1, false), []⟩,
 ⟨.bin .geq (.r 1) (.r 0), some (2, false), []⟩,
 p (.pick (.r 3) (.k (.bool true)) (.r 0)),
 p (.mov (.r 0)),
 ⟨.mov (.v 6), some (0, false), []⟩,
 ⟨.bin .gtr (.r 0) (.k (.int .i64 0)), some (1, false), []⟩,
 ⟨.mov (.r 0), some (2, false), []⟩,
 ⟨.mov (.v 7), some (0, true), []⟩,
 ⟨.fad 0 (.v 5), some (1, true), []⟩,
 ⟨.load (none) (.r 0), some (2, true), []⟩,
 ⟨.mov (.v 6), some (3, true), []⟩,
 ⟨.bin .sub (.r 0) (.k (.int .i64 1)), some (4, true), []⟩,
 ⟨.iad 1 (.r 2) (.r 0), some (5, true), []⟩,
 ⟨.load (none) (.r 0), some (6, true), []⟩,
 ⟨.bin .leq (.r 6) (.r 0), some (7, true), []⟩,
 ⟨.pick (.r 8) (.r 0) (.k (.bool false)), some (11, false), []⟩,
 p (.pick (.r 12) (.k (.bool true)) (.r 0))] [(3, .v 3), (5, .v 5), (26, .v 26), (27, .v 27), (28, .v 28), (33, .v 33), (34, .v 34), (35, .v 35), (60, .r 0)])
 (.cond (.v 60)
 (.seq
 (.reg false [p (.mov (.k (.bool false)))] [(2, .r 0)])
 .ret)
 .skip))))
 (.reg false [p (.bin .add (.v 35) (.k (.int .i64 1))),
 p (.mov (.r 0))] [(3, .v 3), (5, .v 5), (26, .v 26), (27, .v 27), (28, .v 28), (33, .v 33), (34, .v 34), (35, .r 0)])))))))
 (.frz
 (.seq
 (.reg false [p (.fad 1 (.v 5)),
 p (.load (none) (.r 0)),
 p (.bin .lss (.r 0) (.k (.int .i64 1))),
 p (.mov (.r 0)),
 ⟨.fad 1 (.v 5), some (0, false), []⟩,
 ⟨.load (none) (.r 0), some (1, false), []⟩,
 ⟨.bin .gtr (.r 0) (.k (.int .i64 8)), some (2, false), []⟩,
 p (.pick (.r 3) (.k (.bool true)) (.r 0)),
 p (.mov (.r 0)),
 ⟨.fad 2 (.v 5), some (0, false), []⟩,
 ⟨.load (none) (.r 0), some (1, false), []⟩,
 ⟨.bin .lss (.r 0) (.k (.int .i64 0)), some (2, false), []⟩,
 p (.pick (.r 3) (.k (.bool true)) (.r 0)),
 p (.mov (.r 0)),
 ⟨.fad 2 (.v 5), some (0, false), []⟩,
 ⟨.load (none) (.r 0), some (1, false), []⟩,
 ⟨.bin .gtr (.r 0) (.k (.int .i64 1048576)), some (2, false), []⟩,
 p (.pick (.r 3) (.k (.bool true)) (.r 0)),
 p (.mov (.r 0)),
 ⟨.fad 3 (.v 5), some (0, false), []⟩,
 ⟨.load (none) (.r 0), some (1, false), []⟩,
 ⟨.bin .lss (.r 0) (.k (.int .i64 1)), some (2, false), []⟩,
 p (.pick (.r 3) (.k (.bool true)) (.r 0)),
 p (.mov (.r 0)),
 ⟨.fad 3 (.v 5), some (0, false), []⟩,
 ⟨.load (none) (.r 0), some (1, false), []⟩,
 ⟨.bin .gtr (.r 0) (.k (.int .i64 1048576)), some (2, false), []⟩,
 p (.pick (.r 3) (.k (.bool true)) (.r 0))] [(3, .v 3), (26, .v 26), (27, .v 27), (28, .v 28), (89, .r 0)])
 (.cond (.v 89)
 (.seq
 (.reg false [p (.mov (.k (.bool false)))] [(2, .r 0)])
 .ret)
 .skip))))))
 (.frz
 (.reg false [p (.bin .add (.v 28) (.k (.int .i64 1))),
 p (.mov (.r 0))] [(3, .v 3), (26, .v 26), (27, .v 27), (28, .r 0)]))))))))
 (.frz
 (.seq
 (.reg false [p (.mov (.k (.bool true)))] [(2, .r 0)])
 .ret))))))
def r57 : List RV := [.t 2]
theorem chk57 : Chk Try.prog Try.f57 c57 r57 := ⟨_, rfl, by kernel_rfl, by kernel_rfl⟩
theorem en57 : EnP Try.prog 57 91 c57 r57 := mkEnP (by kernel_rfl) Try.func57 (by kernel_rfl) chk57

/-- `penelope/peneloperef16.reach` -/
def c58 : C :=
  (.seq
 (.reg false [p (.box 2 (.v 0)),
 p (.mov (.k (.fsl .nil 1 [])))] [(1, .v 1), (2, .r 1)])
 (.seq
 (.reg false [p (.fad 1 (.v 2)),
 p (.load (none) (.r 0)),
 p (.len false (.r 0)),
 p (.mks 1 1 (.bool false) (.r 0)),
 p (.mov (.r 0))] [(1, .v 1), (2, .v 2), (5, .r 0)])
 (.seq
 (.seq
 (.reg false [p (.fad 1 (.v 2)),
 p (.load (none) (.r 0)),
 p (.mov (.v 1)),
 p (.iad 4 (.r 1) (.r 0)),
 p (.fad 0 (.r 0)),
 p (.load (none) (.r 0)),
 p (.len false (.r 0)),
 p (.mov (.k (.int .i64 0)))] [(2, .v 2), (5, .v 5), (22, .r 2), (23, .r 1), (24, .r 0)])
 (.block 0
 (.loop
 (.seq
 (.reg false [p (.bin .lss (.v 24) (.v 23))] [(2, .v 2), (5, .v 5), (22, .v 22), (23, .v 23), (24, .v 24), (25, .r 0)])
 (.seq
 (.cond (.v 25)
 .skip
 (.exit 0))
 (.seq
 (.block 1
 (.seq
 (.reg false [p (.iad 1 (.v 22) (.v 24)),
 p (.load (none) (.r 0)),
 p (.mov (.r 0))] [(2, .v 2), (5, .v 5), (7, .r 0), (22, .v 22), (23, .v 23), (24, .v 24)])
 (.reg false [p (.mov (.v 5)),
 p (.mov (.v 7)),
 p (.iad 1 (.r 1) (.r 0)),
 p (.store (none) (.r 0) (.k (.bool true)))] [(2, .v 2), (5, .v 5), (22, .v 22), (23, .v 23), (24, .v 24)])))
 (.reg false [p (.bin .add (.v 24) (.k (.int .i64 1))),
 p (.mov (.r 0))] [(2, .v 2), (5, .v 5), (22, .v 22), (23, .v 23), (24, .r 0)])))))))
 (.frz
 (.seq
 (.seq
 (.reg false [p (.mov (.k (.int .i64 0)))] [(2, .v 2), (5, .v 5), (8, .r 0)])
 (.block 2
 (.loop
 (.seq
 (.seq
 (.reg false [p (.mov (.v 8)),
 p (.fad 1 (.v 2)),
 p (.load (none) (.r 0)),
 p (.len false (.r 0)),
 p (.bin .lss (.r 3) (.r 0))] [(2, .v 2), (5, .v 5), (8, .v 8), (36, .r 0)])
 (.cond (.v 36)
 .skip
 (.exit 2)))
 (.seq
 (.block 3
 (.seq
 (.reg false [p (.fad 1 (.v 2)),
 p (.load (none) (.r 0)),
 p (.len false (.r 0)),
 p (.mov (.k (.int .i64 0)))] [(2, .v 2), (5, .v 5), (8, .v 8), (40, .r 2), (41, .r 1), (42, .r 0)])
 (.block 4
 (.loop
 (.seq
 (.reg false [p (.bin .lss (.v 42) (.v 41))] [(2, .v 2), (5, .v 5), (8, .v 8), (40, .v 40), (41, .v 41), (42, .v 42), (43, .r 0)])
 (.seq
 (.cond (.v 43)
 .skip
 (.exit 4))
 (.seq
 (.block 5
 (.seq
 (.reg false [p (.mov (.v 42)),
 p (.iad 4 (.v 40) (.v 42)),
 p (.load (some 4) (.r 0)),
 p (.alloc 4 (.agg [.fsl .nil 1 [], .int .i64 0, .int .i64 0, .int .i64 0])),
 p (.mov (.r 3)),
 p (.store (some 4) (.r 1) (.r 2))] [(2, .v 2), (5, .v 5), (8, .v 8), (9, .r 1), (10, .r 2), (40, .v 40), (41, .v 41), (42, .v 42)])
 (.seq
 (.reg false [p (.mov (.v 5)),
 p (.mov (.v 9)),
 p (.iad 1 (.r 1) (.r 0)),
 p (.load (none) (.r 0))] [(2, .v 2), (5, .v 5), (8, .v 8), (10, .v 10), (40, .v 40), (41, .v 41), (42, .v 42), (50, .r 0)])
 (.cond (.v 50)
 (.seq
 (.reg false [p (.fad 0 (.v 10)),
 p (.load (none) (.r 0)),
 p (.len false (.r 0)),
 p (.mov (.k (.int .i64 0)))] [(2, .v 2), (5, .v 5), (8, .v 8), (40, .v 40), (41, .v 41), (42, .v 42), (52, .r 2), (53, .r 1), (54, .r 0)])
 (.block 6
 (.loop
 (.seq
 (.reg false [p (.bin .lss (.v 54) (.v 53))] [(2, .v 2), (5, .v 5), (8, .v 8), (40, .v 40), (41, .v 41), (42, .v 42), (52, .v 52), (53, .v 53), (54, .v 54), (55, .r 0)])
 (.seq
 (.cond (.v 55)
 .skip
 (.exit 6))
 (.seq
 (.block 7
 (.seq
 (.reg false [p (.iad 1 (.v 52) (.v 54)),
 p (.load (none) (.r 0)),
 p (.mov (.r 0))] [(2, .v 2), (5, .v 5), (8, .v 8), (12, .r 0), (40, .v 40), (41, .v 41), (42, .v 42), (52, .v 52), (53, .v 53), (54, .v 54)])
 (.reg false [p (.mov (.v 5)),
 p (.mov (.v 12)),
 p (.iad 1 (.r 1) (.r 0)),
 p (.store (none) (.r 0) (.k (.bool true)))] [(2, .v 2), (5, .v 5), (8, .v 8), (40, .v 40), (41, .v 41), (42, .v 42), (52, .v 52), (53, .v 53), (54, .v 54)])))
 (.reg false [p (.bin .add (.v 54) (.k (.int .i64 1))),
 p (.mov (.r 0))] [(2, .v 2), (5, .v 5), (8, .v 8), (40, .v 40), (41, .v 41), (42, .v 42), (52, .v 52), (53, .v 53), (54, .r 0)])))))))
 .skip))))
 (.frz
 (.reg false [p (.bin .add (.v 42) (.k (.int .i64 1))),
 p (.mov (.r 0))] [(2, .v 2), (5, .v 5), (8, .v 8), (40, .v 40), (41, .v 41), (42, .r 0)])))))))))
 (.frz
 (.reg false [p (.mov (.v 8)),
 p (.bin .add (.r 0) (.k (.int .i64 1))),
 p (.mov (.r 0))] [(2, .v 2), (5, .v 5), (8, .r 0)])))))))
 (.frz
 (.seq
 (.reg false [p (.mov (.v 5)),
 p (.mov (.r 0))] [(4, .r 0)])
 .ret)))))))
def r58 : List RV := [.t 4]
theorem chk58 : Chk Try.prog Try.f58 c58 r58 := ⟨_, rfl, by kernel_rfl, by kernel_rfl⟩
theorem en58 : EnP Try.prog 58 64 c58 r58 := mkEnP (by kernel_rfl) Try.func58 (by kernel_rfl) chk58

/-- `penelope/peneloperef16.Right` -/
def c29 : C :=
  (.seq
 (.reg false [p (.box 2 (.v 0)),
 p (.mov (.k (.int .i64 0)))] [(1, .r 1)])
 (.seq
 (.seq
 (.reg false [p (.fad 1 (.v 1)),
 p (.load (none) (.r 0)),
 p (.len false (.r 0)),
 p (.bin .gtr (.r 0) (.k (.int .i64 10)))] [(1, .v 1), (8, .r 0)])
 (.cond (.v 8)
 (.seq
 (.reg false [p (.mov (.k (.int .i64 2)))] [(2, .r 0)])
 .ret)
 .skip))
 (.seq
 (.seq
 (.reg false [p (.load (some 2) (.v 1)),
 p (.call true (.k (.fn 57 [] [])) [.r 0]),
 p (.un .not (.r 0))] [(1, .v 1), (11, .r 0)])
 (.cond (.v 11)
 (.seq
 (.reg false [p (.mov (.k (.int .i64 1)))] [(2, .r 0)])
 .ret)
 .skip))
 (.seq
 (.seq
 (.reg false [p (.fad 1 (.v 1)),
 p (.load (none) (.r 0)),
 p (.len false (.r 0)),
 p (.mov (.k (.int .i64 0)))] [(1, .v 1), (14, .r 1), (15, .r 0)])
 (.block 0
 (.loop
 (.seq
 (.reg false [p (.bin .lss (.v 15) (.v 14))] [(1, .v 1), (14, .v 14), (15, .v 15), (16, .r 0)])
 (.seq
 (.cond (.v 16)
 .skip
 (.exit 0))
 (.seq
 (.block 1
 (.seq
 (.reg false [p (.mov (.v 15)),
 p (.mov (.r 0))] [(1, .v 1), (3, .r 0), (14, .v 14), (15, .v 15)])
 (.seq
 (.reg false [p (.load (some 2) (.v 1)),
 p (.mov (.v 3)),
 p (.call true (.k (.fn 58 [] [])) [.r 1, .r 0]),
 p (.mov (.r 0))] [(1, .v 1), (3, .v 3), (4, .r 0), (14, .v 14), (15, .v 15)])
 (.seq
 (.reg false [p (.mov (.v 4)),
 p (.mov (.v 3)),
 p (.iad 1 (.r 1) (.r 0)),
 p (.load (none) (.r 0))] [(1, .v 1), (14, .v 14), (15, .v 15), (24, .r 0)])
 (.cond (.v 24)
 (.seq
 (.reg false [p (.mov (.k (.int .i64 160)))] [(2, .r 0)])
 .ret)
 .skip)))))
 (.reg false [p (.bin .add (.v 15) (.k (.int .i64 1))),
 p (.mov (.r 0))] [(1, .v 1), (14, .v 14), (15, .r 0)])))))))
 (.frz
 (.seq
 (.reg false [p (.mov (.k (.int .i64 0)))] [(2, .r 0)])
 .ret))))))
def r29 : List RV := [.t 2]
theorem chk29 : Chk Try.prog Try.f29 c29 r29 := ⟨_, rfl, by kernel_rfl, by kernel_rfl⟩
theorem en29 : EnP Try.prog 29 26 c29 r29 := mkEnP (by kernel_rfl) Try.func29 (by kernel_rfl) chk29


end Go.Proofs.Ytjlpmndipceboaa.Ev
end
section
set_option linter.unusedSimpArgs false
namespace Go.Proofs.Ytjlpmndipceboaa.Ev
open Go
/-- `(*penelope/frame.writer).number` -/
def c22 : C :=
  (.seq
 (.reg false [p (.mov (.v 1)),
 p (.mov (.v 2)),
 p (.call true (.k (.fn 51 [] [])) [.r 1, .r 0]),
 p (.mov (.r 0)),
 p (.ext (.r 0) 0),
 p (.ext (.r 1) 1),
 p (.mov (.r 1)),
 p (.mov (.r 1))] [(0, .v 0), (6, .r 1), (7, .r 0)])
 (.reg true [p (.mov (.v 0)),
 p (.mov (.v 0)),
 p (.mov (.v 0)),
 p (.nck (.r 0)),
 p (.fad 0 (.r 0)),
 p (.load (none) (.r 0)),
 p (.mov (.v 6)),
 p (.bsl 1 [.r 1, .r 0]),
 p (.call true (.k (.fn 24 [] [])) [.r 0]),
 p (.mov (.v 0)),
 p (.nck (.r 0)),
 p (.fad 1 (.r 0)),
 p (.load (none) (.r 0)),
 p (.mov (.r 0)),
 ⟨.mov (.v 7), some (0, false), []⟩,
 ⟨.bin .neq (.r 0) (.k (.int .i64 0)), some (1, false), []⟩,
 p (.pick (.r 2) (.k (.bool true)) (.r 0)),
 p (.nck (.r 16)),
 p (.fad 0 (.r 0)),
 p (.store (none) (.r 0) (.r 10)),
 p (.nck (.r 18)),
 p (.fad 1 (.r 0)),
 p (.store (none) (.r 0) (.r 5))] []))
def r22 : List RV := []
theorem chk22 : Chk Try.prog Try.f22 c22 r22 := ⟨_, rfl, by kernel_rfl, by kernel_rfl⟩
theorem ena22 : EnA Try.prog 22 35 c22 r22 := mkEnA (by kernel_rfl) Try.func22 (by kernel_rfl) chk22
theorem en22 : EnP Try.prog 22 35 c22 r22 := mkEnP (by kernel_rfl) Try.func22 (by kernel_rfl) chk22

/-- `(*penelope/frame.writer).text` -/
def c25 : C :=
  (.seq
 (.reg false [p (.mov (.v 1)),
 p (.call true (.k (.fn 53 [] [])) [.r 0]),
 p (.mov (.r 0)),
 p (.ext (.r 0) 0),
 p (.ext (.r 1) 1),
 p (.mov (.r 1)),
 p (.mov (.r 1))] [(0, .v 0), (1, .v 1), (4, .r 1), (5, .r 0)])
 (.reg true [p (.mov (.v 0)),
 p (.mov (.v 0)),
 p (.mov (.v 0)),
 p (.nck (.r 0)),
 p (.fad 0 (.r 0)),
 p (.load (none) (.r 0)),
 p (.mov (.v 4)),
 p (.bsl 1 [.r 1, .r 0]),
 p (.call true (.k (.fn 24 [] [])) [.r 0]),
 p (.mov (.v 0)),
 p (.nck (.r 0)),
 p (.fad 1 (.r 0)),
 p (.load (none) (.r 0)),
 p (.mov (.r 0)),
 ⟨.mov (.v 5), some (0, false), []⟩,
 ⟨.bin .neq (.r 0) (.k (.int .i64 0)), some (1, false), []⟩,
 p (.pick (.r 2) (.k (.bool true)) (.r 0)),
 p (.mov (.r 0)),
 ⟨.mov (.v 1), some (0, false), []⟩,
 ⟨.len true (.r 0), some (1, false), []⟩,
 ⟨.bin .gtr (.r 0) (.k (.int .i64 255)), some (2, false), []⟩,
 p (.pick (.r 3) (.k (.bool true)) (.r 0)),
 p (.nck (.r 21)),
 p (.fad 0 (.r 0)),
 p (.store (none) (.r 0) (.r 15)),
 p (.nck (.r 23)),
 p (.fad 1 (.r 0)),
 p (.store (none) (.r 0) (.r 5))] []))
def r25 : List RV := []
theorem chk25 : Chk Try.prog Try.f25 c25 r25 := ⟨_, rfl, by kernel_rfl, by kernel_rfl⟩
theorem ena25 : EnA Try.prog 25 37 c25 r25 := mkEnA (by kernel_rfl) Try.func25 (by kernel_rfl) chk25
theorem en25 : EnP Try.prog 25 37 c25 r25 := mkEnP (by kernel_rfl) Try.func25 (by kernel_rfl) chk25

/-- `(*penelope/frame.writer).end` -/
def c26 : C :=
  (.seq
 (.reg false [p (.mov (.k (.str []))),
 p (.mov (.k (.int .i64 0)))] [(0, .v 0)])
 (.seq
 (.seq
 (.reg false [p (.mov (.v 0)),
 p (.nck (.r 0)),
 p (.fad 1 (.r 0)),
 p (.load (none) (.r 0))] [(0, .v 0), (7, .r 0)])
 (.cond (.v 7)
 (.seq
 (.reg false [p (.mov (.k (.str []))),
 p (.mov (.k (.int .i64 1)))] [(2, .r 1), (3, .r 0)])
 .ret)
 .skip))
 (.seq
 (.reg false [p (.mov (.v 0)),
 p (.nck (.r 0)),
 p (.fad 0 (.r 0)),
 p (.load (none) (.r 0)),
 p (.call true (.k (.fn 56 [] [])) [.r 0]),
 p (.mov (.r 0)),
 p (.mov (.k (.int .i64 0)))] [(2, .r 1), (3, .r 0)])
 .ret)))
def r26 : List RV := [.t 2, .t 3]
theorem chk26 : Chk Try.prog Try.f26 c26 r26 := ⟨_, rfl, by kernel_rfl, by kernel_rfl⟩
theorem ena26 : EnA Try.prog 26 13 c26 r26 := mkEnA (by kernel_rfl) Try.func26 (by kernel_rfl) chk26
theorem en26 : EnP Try.prog 26 13 c26 r26 := mkEnP (by kernel_rfl) Try.func26 (by kernel_rfl) chk26

/-- `(*penelope/frame.reader).number` -/
def c35 : C :=
  (.seq
 (.reg false [p (.mov (.k (.int .i64 0)))] [(0, .v 0), (1, .v 1)])
 (.seq
 (.seq
 (.reg false [p (.mov (.v 0)),
 p (.nck (.r 0)),
 p (.fad 2 (.r 0)),
 p (.load (none) (.r 0))] [(0, .v 0), (1, .v 1), (11, .r 0)])
 (.cond (.v 11)
 (.seq
 (.reg false [p (.mov (.k (.int .i64 0)))] [(4, .r 0)])
 .ret)
 .skip))
 (.seq
 (.reg true [p (.mov (.v 0)),
 p (.nck (.r 0)),
 p (.fad 0 (.r 0)),
 p (.load (none) (.r 0)),
 p (.mov (.v 0)),
 p (.nck (.r 0)),
 p (.fad 1 (.r 0)),
 p (.load (none) (.r 0)),
 p (.mov (.v 1)),
 p (.call true (.k (.fn 64 [] [])) [.r 5, .r 1, .r 0]),
 p (.mov (.r 0)),
 p (.ext (.r 0) 0),
 p (.ext (.r 1) 1),
 p (.ext (.r 2) 2),
 p (.mov (.r 2)),
 p (.mov (.r 2)),
 p (.mov (.r 2))] [(0, .v 0), (5, .r 2), (6, .r 1), (7, .r 0)])
 (.seq
 (.reg false [p (.mov (.v 0)),
 p (.mov (.v 0)),
 p (.mov (.v 6)),
 p (.mov (.v 7)),
 p (.bin .neq (.r 0) (.k (.int .i64 0))),
 p (.nck (.r 4)),
 p (.fad 1 (.r 0)),
 p (.store (none) (.r 0) (.r 4)),
 p (.nck (.r 6)),
 p (.fad 2 (.r 0)),
 p (.store (none) (.r 0) (.r 5))] [(5, .v 5)])
 (.seq
 (.reg false [p (.mov (.v 5)),
 p (.mov (.r 0))] [(4, .r 0)])
 .ret)))))
def r35 : List RV := [.t 4]
theorem chk35 : Chk Try.prog Try.f35 c35 r35 := ⟨_, rfl, by kernel_rfl, by kernel_rfl⟩
theorem ena35 : EnA Try.prog 35 36 c35 r35 := mkEnA (by kernel_rfl) Try.func35 (by kernel_rfl) chk35
theorem en35 : EnP Try.prog 35 36 c35 r35 := mkEnP (by kernel_rfl) Try.func35 (by kernel_rfl) chk35

/-- `(*penelope/frame.reader).text` -/
def c36 : C :=
  (.seq
 (.reg false [p (.mov (.k (.str [])))] [(0, .v 0)])
 (.seq
 (.seq
 (.reg false [p (.mov (.v 0)),
 p (.nck (.r 0)),
 p (.fad 2 (.r 0)),
 p (.load (none) (.r 0))] [(0, .v 0), (9, .r 0)])
 (.cond (.v 9)
 (.seq
 (.reg false [p (.mov (.k (.str [])))] [(2, .r 0)])
 .ret)
 .skip))
 (.seq
 (.reg true [p (.mov (.v 0)),
 p (.nck (.r 0)),
 p (.fad 0 (.r 0)),
 p (.load (none) (.r 0)),
 p (.mov (.v 0)),
 p (.nck (.r 0)),
 p (.fad 1 (.r 0)),
 p (.load (none) (.r 0)),
 p (.call true (.k (.fn 65 [] [])) [.r 4, .r 0]),
 p (.mov (.r 0)),
 p (.ext (.r 0) 0),
 p (.ext (.r 1) 1),
 p (.ext (.r 2) 2),
 p (.mov (.r 2)),
 p (.mov (.r 2)),
 p (.mov (.r 2))] [(0, .v 0), (3, .r 2), (4, .r 1), (5, .r 0)])
 (.seq
 (.reg false [p (.mov (.v 0)),
 p (.mov (.v 0)),
 p (.mov (.v 4)),
 p (.mov (.v 5)),
 p (.bin .neq (.r 0) (.k (.int .i64 0))),
 p (.mov (.r 0)),
 ⟨.mov (.v 3), some (0, false), []⟩,
 ⟨.len true (.r 0), some (1, false), []⟩,
 ⟨.bin .gtr (.r 0) (.k (.int .i64 255)), some (2, false), []⟩,
 p (.pick (.r 3) (.k (.bool true)) (.r 0)),
 p (.nck (.r 9)),
 p (.fad 1 (.r 0)),
 p (.store (none) (.r 0) (.r 9)),
 p (.nck (.r 11)),
 p (.fad 2 (.r 0)),
 p (.store (none) (.r 0) (.r 5))] [(3, .v 3)])
 (.seq
 (.reg false [p (.mov (.v 3)),
 p (.mov (.r 0))] [(2, .r 0)])
 .ret)))))
def r36 : List RV := [.t 2]
theorem chk36 : Chk Try.prog Try.f36 c36 r36 := ⟨_, rfl, by kernel_rfl, by kernel_rfl⟩
theorem ena36 : EnA Try.prog 36 38 c36 r36 := mkEnA (by kernel_rfl) Try.func36 (by kernel_rfl) chk36
theorem en36 : EnP Try.prog 36 38 c36 r36 := mkEnP (by kernel_rfl) Try.func36 (by kernel_rfl) chk36

/-- `penelope/frame.read` -/
def c34 : C :=
  (.seq
 (.reg false [p (.mov (.k (.nilp)))] [(0, .v 0)])
 (.seq
 (.reg false [p (.mov (.v 0)),
 p (.call true (.k (.fn 63 [] [])) [.r 0]),
 p (.mov (.r 0)),
 p (.ext (.r 0) 0),
 p (.ext (.r 1) 1),
 p (.mov (.r 1)),
 p (.mov (.r 1))] [(3, .r 1), (4, .r 0)])
 (.seq
 (.reg false [p (.mov (.v 3)),
 p (.mov (.v 4)),
 p (.bin .neq (.r 0) (.k (.int .i64 0))),
 p (.build [.str [], .int .i64 0, .bool false] [(0, 1, .r 2), (2, 1, .r 0)]),
 p (.box 3 (.r 0)),
 p (.mov (.r 0))] [(2, .r 0)])
 .ret)))
def r34 : List RV := [.t 2]
theorem chk34 : Chk Try.prog Try.f34 c34 r34 := ⟨_, rfl, by kernel_rfl, by kernel_rfl⟩
theorem ena34 : EnA Try.prog 34 15 c34 r34 := mkEnA (by kernel_rfl) Try.func34 (by kernel_rfl) chk34
theorem en34 : EnP Try.prog 34 15 c34 r34 := mkEnP (by kernel_rfl) Try.func34 (by kernel_rfl) chk34

/-- `(*penelope/peneloperef16.R).Next` -/
def c46 : C :=
  (.seq
 (.reg false [p (.mov (.k (.int .i64 0)))] [(0, .v 0), (1, .v 1)])
 (.seq
 (.seq
 (.reg false [p (.mov (.v 0)),
 p (.nck (.r 0)),
 p (.fad 2 (.r 0)),
 p (.load (none) (.r 0)),
 p (.bin .neq (.r 0) (.k (.int .i64 0)))] [(0, .v 0), (1, .v 1), (12, .r 0)])
 (.cond (.v 12)
 (.seq
 (.reg false [p (.mov (.k (.int .i64 0)))] [(4, .r 0)])
 .ret)
 .skip))
 (.seq
 (.reg true [p (.mov (.v 0)),
 p (.nck (.r 0)),
 p (.fad 0 (.r 0)),
 p (.load (none) (.r 0)),
 p (.mov (.v 0)),
 p (.nck (.r 0)),
 p (.fad 1 (.r 0)),
 p (.load (none) (.r 0)),
 p (.mov (.v 1)),
 p (.call true (.k (.fn 71 [] [])) [.r 5, .r 1, .r 0]),
 p (.mov (.r 0)),
 p (.ext (.r 0) 0),
 p (.ext (.r 1) 1),
 p (.ext (.r 2) 2),
 p (.mov (.r 2)),
 p (.mov (.r 2)),
 p (.mov (.r 2))] [(0, .v 0), (5, .r 2), (6, .r 1), (7, .r 0)])
 (.seq
 (.reg false [p (.mov (.v 0)),
 p (.mov (.v 6)),
 p (.nck (.r 1)),
 p (.fad 1 (.r 0)),
 p (.store (none) (.r 0) (.r 2))] [(0, .v 0), (5, .v 5), (7, .v 7)])
 (.seq
 (.reg false [p (.mov (.v 0)),
 p (.mov (.v 7)),
 p (.nck (.r 1)),
 p (.fad 2 (.r 0)),
 p (.store (none) (.r 0) (.r 2))] [(5, .v 5)])
 (.seq
 (.reg false [p (.mov (.v 5)),
 p (.mov (.r 0))] [(4, .r 0)])
 .ret))))))
def r46 : List RV := [.t 4]
theorem chk46 : Chk Try.prog Try.f46 c46 r46 := ⟨_, rfl, by kernel_rfl, by kernel_rfl⟩
theorem ena46 : EnA Try.prog 46 36 c46 r46 := mkEnA (by kernel_rfl) Try.func46 (by kernel_rfl) chk46
theorem en46 : EnP Try.prog 46 36 c46 r46 := mkEnP (by kernel_rfl) Try.func46 (by kernel_rfl) chk46

/-- `(*penelope/peneloperef16.R).Text` -/
def c47 : C :=
  (.seq
 (.reg false [p (.mov (.k (.str [])))] [(0, .v 0)])
 (.seq
 (.seq
 (.reg false [p (.mov (.v 0)),
 p (.nck (.r 0)),
 p (.fad 2 (.r 0)),
 p (.load (none) (.r 0)),
 p (.bin .neq (.r 0) (.k (.int .i64 0)))] [(0, .v 0), (10, .r 0)])
 (.cond (.v 10)
 (.seq
 (.reg false [p (.mov (.k (.str [])))] [(2, .r 0)])
 .ret)
 .skip))
 (.seq
 (.reg true [p (.mov (.v 0)),
 p (.nck (.r 0)),
 p (.fad 0 (.r 0)),
 p (.load (none) (.r 0)),
 p (.mov (.v 0)),
 p (.nck (.r 0)),
 p (.fad 1 (.r 0)),
 p (.load (none) (.r 0)),
 p (.call true (.k (.fn 72 [] [])) [.r 4, .r 0]),
 p (.mov (.r 0)),
 p (.ext (.r 0) 0),
 p (.ext (.r 1) 1),
 p (.ext (.r 2) 2),
 p (.mov (.r 2)),
 p (.mov (.r 2)),
 p (.mov (.r 2))] [(0, .v 0), (3, .r 2), (4, .r 1), (5, .r 0)])
 (.seq
 (.reg false [p (.mov (.v 0)),
 p (.mov (.v 4)),
 p (.nck (.r 1)),
 p (.fad 1 (.r 0)),
 p (.store (none) (.r 0) (.r 2))] [(0, .v 0), (3, .v 3), (5, .v 5)])
 (.seq
 (.reg false [p (.mov (.v 0)),
 p (.mov (.v 5)),
 p (.nck (.r 1)),
 p (.fad 2 (.r 0)),
 p (.store (none) (.r 0) (.r 2))] [(3, .v 3)])
 (.seq
 (.reg false [p (.mov (.v 3)),
 p (.mov (.r 0))] [(2, .r 0)])
 .ret))))))
def r47 : List RV := [.t 2]
theorem chk47 : Chk Try.prog Try.f47 c47 r47 := ⟨_, rfl, by kernel_rfl, by kernel_rfl⟩
theorem ena47 : EnA Try.prog 47 33 c47 r47 := mkEnA (by kernel_rfl) Try.func47 (by kernel_rfl) chk47
theorem en47 : EnP Try.prog 47 33 c47 r47 := mkEnP (by kernel_rfl) Try.func47 (by kernel_rfl) chk47

/-- `penelope/task.stands` -/
def c69 : C :=
  (.seq
 (.reg false [p (.box 5 (.v 0)),
 p (.mov (.k (.bool false)))] [(1, .r 1)])
 (.seq
 (.seq
 (.reg false [p (.fad 0 (.v 1)),
 p (.load (none) (.r 0)),
 p (.bin .lss (.r 0) (.k (.int .i64 0))),
 p (.mov (.r 0)),
 ⟨.fad 0 (.v 1), some (0, false), []⟩,
 ⟨.load (none) (.r 0), some (1, false), []⟩,
 ⟨.bin .gtr (.r 0) (.k (.int .i64 5)), some (2, false), []⟩,
 p (.pick (.r 3) (.k (.bool true)) (.r 0)),
 p (.mov (.r 0)),
 ⟨.fad 1 (.v 1), some (0, false), []⟩,
 ⟨.load (none) (.r 0), some (1, false), []⟩,
 ⟨.bin .lss (.r 0) (.k (.int .i64 0)), some (2, false), []⟩,
 p (.pick (.r 3) (.k (.bool true)) (.r 0)),
 p (.mov (.r 0)),
 ⟨.fad 1 (.v 1), some (0, false), []⟩,
 ⟨.load (none) (.r 0), some (1, false), []⟩,
 ⟨.bin .gtr (.r 0) (.k (.int .i64 8)), some (2, false), []⟩,
 p (.pick (.r 3) (.k (.bool true)) (.r 0)),
 p (.mov (.r 0)),
 ⟨.fad 2 (.v 1), some (0, false), []⟩,
 ⟨.load (none) (.r 0), some (1, false), []⟩,
 ⟨.bin .lss (.r 0) (.k (.int .i64 0)), some (2, false), []⟩,
 p (.pick (.r 3) (.k (.bool true)) (.r 0)),
 p (.mov (.r 0)),
 ⟨.fad 2 (.v 1), some (0, false), []⟩,
 ⟨.load (none) (.r 0), some (1, false), []⟩,
 ⟨.bin .gtr (.r 0) (.k (.int .i64 1099511627776)), some (2, false), []⟩,
 p (.pick (.r 3) (.k (.bool true)) (.r 0))] [(1, .v 1), (30, .r 0)])
 (.cond (.v 30)
 (.seq
 (.reg false [p (.mov (.k (.bool false)))] [(2, .r 0)])
 .ret)
 .skip))
 (.seq
 (.seq
 (.reg false [p (.fad 3 (.v 1)),
 p (.load (none) (.r 0)),
 p (.bin .lss (.r 0) (.k (.int .i64 0))),
 p (.mov (.r 0)),
 ⟨.fad 3 (.v 1), some (0, false), []⟩,
 ⟨.load (none) (.r 0), some (1, false), []⟩,
 ⟨.bin .gtr (.r 0) (.k (.int .i64 1099511627776)), some (2, false), []⟩,
 p (.pick (.r 3) (.k (.bool true)) (.r 0)),
 p (.mov (.r 0)),
 ⟨.fad 3 (.v 1), some (0, false), []⟩,
 ⟨.load (none) (.r 0), some (1, false), []⟩,
 ⟨.bin .gtr (.r 0) (.k (.int .i64 0)), some (2, false), []⟩,
 ⟨.fad 0 (.v 1), some (3, false), []⟩,
 ⟨.load (none) (.r 0), some (4, false), []⟩,
 ⟨.bin .eql (.r 0) (.k (.int .i64 2)), some (5, false), []⟩,
 ⟨.eqb true (.r 3) (.r 0), some (6, false), []⟩,
 p (.pick (.r 7) (.k (.bool true)) (.r 0))] [(1, .v 1), (47, .r 0)])
 (.cond (.v 47)
 (.seq
 (.reg false [p (.mov (.k (.bool false)))] [(2, .r 0)])
 .ret)
 .skip))
 (.seq
 (.reg false [p (.fad 4 (.v 1)),
 p (.load (none) (.r 0)),
 p (.len true (.r 0)),
 p (.bin .leq (.r 0) (.k (.int .i64 16))),
 p (.mov (.r 0)),
 ⟨.fad 4 (.v 1), some (0, true), []⟩,
 ⟨.load (none) (.r 0), some (1, true), []⟩,
 ⟨.bin .eql (.r 0) (.k (.str [])), some (2, true), []⟩,
 ⟨.mov (.r 0), some (3, true), []⟩,
 ⟨.fad 0 (.v 1), some (0, false), []⟩,
 ⟨.load (none) (.r 0), some (1, false), []⟩,
 ⟨.bin .eql (.r 0) (.k (.int .i64 3)), some (2, false), []⟩,
 ⟨.pick (.r 3) (.k (.bool true)) (.r 0), some (7, true), []⟩,
 p (.pick (.r 8) (.r 0) (.k (.bool false))),
 p (.mov (.r 0))] [(2, .r 0)])
 .ret))))
def r69 : List RV := [.t 2]
theorem chk69 : Chk Try.prog Try.f69 c69 r69 := ⟨_, rfl, by kernel_rfl, by kernel_rfl⟩
theorem en69 : EnP Try.prog 69 62 c69 r69 := mkEnP (by kernel_rfl) Try.func69 (by kernel_rfl) chk69

/-- `penelope/task.Put` -/
def c42 : C :=
  (.seq
 (.reg false [p (.box 5 (.v 0)),
 p (.mov (.k (.str []))),
 p (.mov (.k (.int .i64 0)))] [(1, .r 2)])
 (.seq
 (.seq
 (.reg false [p (.load (some 5) (.v 1)),
 p (.call true (.k (.fn 69 [] [])) [.r 0]),
 p (.un .not (.r 0))] [(1, .v 1), (16, .r 0)])
 (.cond (.v 16)
 (.seq
 (.reg false [p (.mov (.k (.str []))),
 p (.mov (.k (.int .i64 1)))] [(2, .r 1), (3, .r 0)])
 .ret)
 .skip))
 (.seq
 (.reg false [p (.fad 0 (.v 1)),
 p (.load (none) (.r 0)),
 p (.call true (.k (.fn 51 [] [])) [.r 0, .k (.int .i64 1)]),
 p (.mov (.r 0)),
 p (.ext (.r 0) 0),
 p (.ext (.r 1) 1),
 p (.mov (.r 1)),
 p (.mov (.r 1))] [(1, .v 1), (4, .r 1)])
 (.seq
 (.reg false [p (.fad 1 (.v 1)),
 p (.load (none) (.r 0)),
 p (.call true (.k (.fn 51 [] [])) [.r 0, .k (.int .i64 1)]),
 p (.mov (.r 0)),
 p (.ext (.r 0) 0),
 p (.ext (.r 1) 1),
 p (.mov (.r 1)),
 p (.mov (.r 1))] [(1, .v 1), (4, .v 4), (6, .r 1)])
 (.seq
 (.reg false [p (.fad 2 (.v 1)),
 p (.load (none) (.r 0)),
 p (.call true (.k (.fn 51 [] [])) [.r 0, .k (.int .i64 6)]),
 p (.mov (.r 0)),
 p (.ext (.r 0) 0),
 p (.ext (.r 1) 1),
 p (.mov (.r 1)),
 p (.mov (.r 1))] [(1, .v 1), (4, .v 4), (6, .v 6), (8, .r 1)])
 (.seq
 (.reg false [p (.fad 3 (.v 1)),
 p (.load (none) (.r 0)),
 p (.call true (.k (.fn 51 [] [])) [.r 0, .k (.int .i64 6)]),
 p (.mov (.r 0)),
 p (.ext (.r 0) 0),
 p (.ext (.r 1) 1),
 p (.mov (.r 1)),
 p (.mov (.r 1))] [(1, .v 1), (4, .v 4), (6, .v 6), (8, .v 8), (10, .r 1)])
 (.seq
 (.reg false [p (.fad 4 (.v 1)),
 p (.load (none) (.r 0)),
 p (.call true (.k (.fn 53 [] [])) [.r 0]),
 p (.mov (.r 0)),
 p (.ext (.r 0) 0),
 p (.ext (.r 1) 1),
 p (.mov (.r 1)),
 p (.mov (.r 1))] [(4, .v 4), (6, .v 6), (8, .v 8), (10, .v 10), (12, .r 1), (13, .r 0)])
 (.seq
 (.reg false [p (.mov (.v 4)),
 p (.mov (.v 6)),
 p (.mov (.v 8)),
 p (.mov (.v 10)),
 p (.mov (.v 12)),
 p (.bsl 1 [.r 4, .r 3, .r 2, .r 1, .r 0]),
 p (.call true (.k (.fn 24 [] [])) [.r 0]),
 p (.mov (.v 13)),
 p (.mov (.r 1)),
 p (.mov (.r 1))] [(2, .r 1), (3, .r 0)])
 .ret))))))))
def r42 : List RV := [.t 2, .t 3]
theorem chk42 : Chk Try.prog Try.f42 c42 r42 := ⟨_, rfl, by kernel_rfl, by kernel_rfl⟩
theorem en42 : EnP Try.prog 42 55 c42 r42 := mkEnP (by kernel_rfl) Try.func42 (by kernel_rfl) chk42

/-- `penelope/task.Get` -/
def c45 : C :=
  (.seq
 (.reg false [p (.alloc 5 (.agg [.int .i64 0, .int .i64 0, .int .i64 0, .int .i64 0, .str []])),
 p (.mov (.k (.int .i64 0)))] [(0, .v 0), (2, .r 1)])
 (.seq
 (.reg false [p (.alloc 5 (.agg [.int .i64 0, .int .i64 0, .int .i64 0, .int .i64 0, .str []]))] [(0, .v 0), (2, .v 2), (4, .r 0)])
 (.seq
 (.reg false [p (.mov (.k (.int .i64 0))),
 p (.mov (.k (.int .i64 0)))] [(0, .v 0), (2, .v 2), (4, .v 4), (5, .r 1)])
 (.seq
 (.seq
 (.reg false [p (.fad 0 (.v 4)),
 p (.build [.nilp, .int .i64 0] [(0, 1, .r 0), (1, 1, .k (.int .i64 1))]),
 p (.fad 1 (.v 4)),
 p (.build [.nilp, .int .i64 0] [(0, 1, .r 0), (1, 1, .k (.int .i64 1))]),
 p (.fad 2 (.v 4)),
 p (.build [.nilp, .int .i64 0] [(0, 1, .r 0), (1, 1, .k (.int .i64 6))]),
 p (.fad 3 (.v 4)),
 p (.build [.nilp, .int .i64 0] [(0, 1, .r 0), (1, 1, .k (.int .i64 6))]),
 p (.bsl 2 [.r 6, .r 4, .r 2, .r 0]),
 p (.len false (.r 0)),
 p (.mov (.k (.int .i64 0)))] [(0, .v 0), (2, .v 2), (4, .v 4), (5, .v 5), (17, .r 2), (18, .r 1), (19, .r 0)])
 (.block 0
 (.loop
 (.seq
 (.reg false [p (.bin .lss (.v 19) (.v 18))] [(0, .v 0), (2, .v 2), (4, .v 4), (5, .v 5), (17, .v 17), (18, .v 18), (19, .v 19), (20, .r 0)])
 (.seq
 (.cond (.v 20)
 .skip
 (.exit 0))
 (.seq
 (.block 1
 (.seq
 (.reg false [p (.iad 2 (.v 17) (.v 19)),
 p (.load (some 2) (.r 0)),
 p (.alloc 2 (.agg [.nilp, .int .i64 0])),
 p (.store (some 2) (.r 0) (.r 1))] [(0, .v 0), (2, .v 2), (4, .v 4), (5, .v 5), (8, .r 1), (17, .v 17), (18, .v 18), (19, .v 19)])
 (.seq
 (.reg true [p (.fad 0 (.v 8)),
 p (.load (none) (.r 0)),
 p (.mov (.v 0)),
 p (.mov (.v 5)),
 p (.fad 1 (.v 8)),
 p (.load (none) (.r 0)),
 p (.call true (.k (.fn 64 [] [])) [.r 3, .r 2, .r 0]),
 p (.mov (.r 0)),
 p (.ext (.r 0) 0),
 p (.ext (.r 1) 1),
 p (.ext (.r 2) 2),
 p (.nck (.r 9)),
 p (.store (none) (.r 0) (.r 3)),
 p (.mov (.r 3)),
 p (.mov (.r 3))] [(0, .v 0), (2, .v 2), (4, .v 4), (5, .r 1), (6, .r 0), (17, .v 17), (18, .v 18), (19, .v 19)])
 (.seq
 (.reg false [p (.mov (.v 6)),
 p (.bin .neq (.r 0) (.k (.int .i64 0)))] [(0, .v 0), (2, .v 2), (4, .v 4), (5, .v 5), (6, .v 6), (17, .v 17), (18, .v 18), (19, .v 19), (36, .r 0)])
 (.cond (.v 36)
 (.seq
 (.reg false [p (.build [.int .i64 0, .int .i64 0, .int .i64 0, .int .i64 0, .str []] []),
 p (.mov (.v 6)),
 p (.store (some 5) (.v 2) (.r 1)),
 p (.mov (.r 1))] [(2, .v 2), (3, .r 0)])
 .ret)
 .skip)))))
 (.reg false [p (.bin .add (.v 19) (.k (.int .i64 1))),
 p (.mov (.r 0))] [(0, .v 0), (2, .v 2), (4, .v 4), (5, .v 5), (17, .v 17), (18, .v 18), (19, .r 0)])))))))
 (.frz
 (.seq
 (.seq
 (.reg false [p (.mov (.v 0)),
 p (.mov (.v 5)),
 p (.call true (.k (.fn 65 [] [])) [.r 1, .r 0]),
 p (.mov (.r 0)),
 p (.ext (.r 0) 0),
 p (.ext (.r 1) 1),
 p (.ext (.r 2) 2),
 p (.fad 4 (.v 4)),
 p (.store (none) (.r 0) (.r 3)),
 p (.mov (.r 3)),
 p (.mov (.r 3))] [(0, .v 0), (2, .v 2), (4, .v 4), (5, .r 1), (6, .r 0)])
 (.seq
 (.reg false [p (.mov (.v 6)),
 p (.bin .neq (.r 0) (.k (.int .i64 0)))] [(0, .v 0), (2, .v 2), (4, .v 4), (5, .v 5), (6, .v 6), (49, .r 0)])
 (.cond (.v 49)
 (.seq
 (.reg false [p (.build [.int .i64 0, .int .i64 0, .int .i64 0, .int .i64 0, .str []] []),
 p (.mov (.v 6)),
 p (.store (some 5) (.v 2) (.r 1)),
 p (.mov (.r 1))] [(2, .v 2), (3, .r 0)])
 .ret)
 .skip)))
 (.seq
 (.seq
 (.reg false [p (.mov (.v 5)),
 p (.mov (.v 0)),
 p (.len true (.r 0)),
 p (.bin .neq (.r 2) (.r 0)),
 p (.mov (.r 0)),
 ⟨.load (some 5) (.v 4), some (0, false), []⟩,
 ⟨.call true (.k (.fn 69 [] [])) [.r 0], some (1, false), []⟩,
 ⟨.un .not (.r 0), some (2, false), []⟩,
 p (.pick (.r 3) (.k (.bool true)) (.r 0))] [(2, .v 2), (4, .v 4), (60, .r 0)])
 (.cond (.v 60)
 (.seq
 (.reg false [p (.build [.int .i64 0, .int .i64 0, .int .i64 0, .int .i64 0, .str []] []),
 p (.store (some 5) (.v 2) (.r 0)),
 p (.mov (.k (.int .i64 4)))] [(2, .v 2), (3, .r 0)])
 .ret)
 .skip))
 (.seq
 (.reg false [p (.load (some 5) (.v 4)),
 p (.store (some 5) (.v 2) (.r 0)),
 p (.mov (.k (.int .i64 0)))] [(2, .v 2), (3, .r 0)])
 .ret))))))))
def r45 : List RV := [.c 2 (some 5), .t 3]
theorem chk45 : Chk Try.prog Try.f45 c45 r45 := ⟨_, rfl, by kernel_rfl, by kernel_rfl⟩
theorem en45 : EnP Try.prog 45 63 c45 r45 := mkEnP (by kernel_rfl) Try.func45 (by kernel_rfl) chk45

/-- `penelope/peneloperef18.Stands` -/
def c43 : C :=
  (.seq
 (.reg false [p (.box 5 (.v 0)),
 p (.mov (.k (.bool false)))] [(1, .r 1)])
 (.seq
 (.seq
 (.reg false [p (.fad 0 (.v 1)),
 p (.load (none) (.r 0)),
 p (.bin .lss (.r 0) (.k (.int .i64 0))),
 p (.mov (.r 0)),
 ⟨.fad 0 (.v 1), some (0, false), []⟩,
 ⟨.load (none) (.r 0), some (1, false), []⟩,
 ⟨.bin .gtr (.r 0) (.k (.int .i64 5)), some (2, false), []⟩,
 p (.pick (.r 3) (.k (.bool true)) (.r 0)),
 p (.mov (.r 0)),
 ⟨.fad 1 (.v 1), some (0, false), []⟩,
 ⟨.load (none) (.r 0), some (1, false), []⟩,
 ⟨.bin .lss (.r 0) (.k (.int .i64 0)), some (2, false), []⟩,
 p (.pick (.r 3) (.k (.bool true)) (.r 0)),
 p (.mov (.r 0)),
 ⟨.fad 1 (.v 1), some (0, false), []⟩,
 ⟨.load (none) (.r 0), some (1, false), []⟩,
 ⟨.bin .gtr (.r 0) (.k (.int .i64 8)), some (2, false), []⟩,
 p (.pick (.r 3) (.k (.bool true)) (.r 0)),
 p (.mov (.r 0)),
 ⟨.fad 2 (.v 1), some (0, false), []⟩,
 ⟨.load (none) (.r 0), some (1, false), []⟩,
 ⟨.bin .lss (.r 0) (.k (.int .i64 0)), some (2, false), []⟩,
 p (.pick (.r 3) (.k (.bool true)) (.r 0)),
 p (.mov (.r 0)),
 ⟨.fad 2 (.v 1), some (0, false), []⟩,
 ⟨.load (none) (.r 0), some (1, false), []⟩,
 ⟨.bin .gtr (.r 0) (.k (.int .i64 1099511627776)), some (2, false), []⟩,
 p (.pick (.r 3) (.k (.bool true)) (.r 0)),
 p (.mov (.r 0)),
 ⟨.fad 3 (.v 1), some (0, false), []⟩,
 ⟨.load (none) (.r 0), some (1, false), []⟩,
 ⟨.bin .gtr (.r 0) (.k (.int .i64 1099511627776)), some (2, false), []⟩,
 p (.pick (.r 3) (.k (.bool true)) (.r 0)),
 p (.mov (.r 0)),
 ⟨.fad 4 (.v 1), some (0, false), []⟩,
 ⟨.load (none) (.r 0), some (1, false), []⟩,
 ⟨.len true (.r 0), some (2, false), []⟩,
 ⟨.bin .gtr (.r 0) (.k (.int .i64 16)), some (3, false), []⟩,
 p (.pick (.r 4) (.k (.bool true)) (.r 0))] [(1, .v 1), (41, .r 0)])
 (.cond (.v 41)
 (.seq
 (.reg false [p (.mov (.k (.bool false)))] [(2, .r 0)])
 .ret)
 .skip))
 (.seq
 (.seq
 (.reg false [p (.fad 0 (.v 1)),
 p (.load (none) (.r 0)),
 p (.bin .eql (.r 0) (.k (.int .i64 2))),
 p (.mov (.r 0)),
 ⟨.fad 3 (.v 1), some (0, true), []⟩,
 ⟨.load (none) (.r 0), some (1, true), []⟩,
 ⟨.bin .lss (.r 0) (.k (.int .i64 1)), some (2, true), []⟩,
 p (.pick (.r 3) (.r 0) (.k (.bool false))),
 p (.mov (.r 0)),
 ⟨.fad 0 (.v 1), some (0, false), []⟩,
 ⟨.load (none) (.r 0), some (1, false), []⟩,
 ⟨.bin .neq (.r 0) (.k (.int .i64 2)), some (2, false), []⟩,
 ⟨.mov (.r 0), some (3, false), []⟩,
 ⟨.fad 3 (.v 1), some (0, true), []⟩,
 ⟨.load (none) (.r 0), some (1, true), []⟩,
 ⟨.bin .neq (.r 0) (.k (.int .i64 0)), some (2, true), []⟩,
 ⟨.pick (.r 3) (.r 0) (.k (.bool false)), some (7, false), []⟩,
 p (.pick (.r 8) (.k (.bool true)) (.r 0))] [(1, .v 1), (59, .r 0)])
 (.cond (.v 59)
 (.seq
 (.reg false [p (.mov (.k (.bool false)))] [(2, .r 0)])
 .ret)
 .skip))
 (.seq
 (.reg false [p (.fad 0 (.v 1)),
 p (.load (none) (.r 0)),
 p (.bin .eql (.r 0) (.k (.int .i64 3))),
 p (.mov (.r 0)),
 ⟨.fad 4 (.v 1), some (0, false), []⟩,
 ⟨.load (none) (.r 0), some (1, false), []⟩,
 ⟨.bin .eql (.r 0) (.k (.str [])), some (2, false), []⟩,
 p (.pick (.r 3) (.k (.bool true)) (.r 0)),
 p (.mov (.r 0))] [(2, .r 0)])
 .ret))))
def r43 : List RV := [.t 2]
theorem chk43 : Chk Try.prog Try.f43 c43 r43 := ⟨_, rfl, by kernel_rfl, by kernel_rfl⟩
theorem en43 : EnP Try.prog 43 68 c43 r43 := mkEnP (by kernel_rfl) Try.func43 (by kernel_rfl) chk43

/-- `penelope/peneloperef18.number` -/
def c70 : C :=
  (.seq
 (.reg false [p (.mov (.k (.str [])))] [(0, .v 0), (1, .v 1)])
 (.seq
 (.reg false [p (.mov (.v 0)),
 p (.mov (.v 1)),
 p (.call true (.k (.fn 61 [] [])) [.r 1, .r 0]),
 p (.mov (.r 0)),
 p (.ext (.r 0) 0),
 p (.ext (.r 1) 1),
 p (.mov (.r 1)),
 p (.mov (.r 1))] [(5, .r 1)])
 (.seq
 (.reg false [p (.mov (.v 5)),
 p (.mov (.r 0))] [(4, .r 0)])
 .ret)))
def r70 : List RV := [.t 4]
theorem chk70 : Chk Try.prog Try.f70 c70 r70 := ⟨_, rfl, by kernel_rfl, by kernel_rfl⟩
theorem en70 : EnP Try.prog 70 14 c70 r70 := mkEnP (by kernel_rfl) Try.func70 (by kernel_rfl) chk70

/-- `penelope/peneloperef18.Put` -/
def c44 : C :=
  (.seq
 (.reg false [p (.box 5 (.v 0)),
 p (.mov (.k (.str [])))] [(1, .r 1)])
 (.seq
 (.reg false [p (.fad 4 (.v 1)),
 p (.load (none) (.r 0)),
 p (.call true (.k (.fn 59 [] [])) [.r 0]),
 p (.mov (.r 0)),
 p (.ext (.r 0) 0),
 p (.ext (.r 1) 1),
 p (.mov (.r 1)),
 p (.mov (.r 1))] [(1, .v 1), (3, .r 1)])
 (.seq
 (.reg true [p (.fad 0 (.v 1)),
 p (.load (none) (.r 0)),
 p (.call true (.k (.fn 70 [] [])) [.r 0, .k (.int .i64 1)]),
 p (.fad 1 (.v 1)),
 p (.load (none) (.r 0)),
 p (.call true (.k (.fn 70 [] [])) [.r 0, .k (.int .i64 1)]),
 p (.bin .add (.r 3) (.r 0)),
 p (.fad 2 (.v 1)),
 p (.load (none) (.r 0)),
 p (.call true (.k (.fn 70 [] [])) [.r 0, .k (.int .i64 6)]),
 p (.bin .add (.r 3) (.r 0)),
 p (.fad 3 (.v 1)),
 p (.load (none) (.r 0)),
 p (.call true (.k (.fn 70 [] [])) [.r 0, .k (.int .i64 6)]),
 p (.bin .add (.r 3) (.r 0)),
 p (.mov (.v 3)),
 p (.bin .add (.r 1) (.r 0)),
 p (.mov (.r 0))] [(2, .r 0)])
 .ret)))
def r44 : List RV := [.t 2]
theorem chk44 : Chk Try.prog Try.f44 c44 r44 := ⟨_, rfl, by kernel_rfl, by kernel_rfl⟩
theorem en44 : EnP Try.prog 44 28 c44 r44 := mkEnP (by kernel_rfl) Try.func44 (by kernel_rfl) chk44

/-- `penelope/peneloperef18.Get` -/
def c48 : C :=
  (.seq
 (.reg false [p (.alloc 5 (.agg [.int .i64 0, .int .i64 0, .int .i64 0, .int .i64 0, .str []])),
 p (.mov (.k (.int .i64 0)))] [(0, .v 0), (2, .r 1)])
 (.seq
 (.reg false [p (.mov (.v 0)),
 p (.build [.str [], .int .i64 0, .int .i64 0] [(0, 1, .r 0)]),
 p (.box 3 (.r 0)),
 p (.mov (.r 0))] [(0, .v 0), (2, .v 2), (4, .r 0)])
 (.seq
 (.reg false [p (.build [.int .i64 0, .int .i64 0, .int .i64 0, .int .i64 0, .str []] []),
 p (.alloc 5 (.agg [.int .i64 0, .int .i64 0, .int .i64 0, .int .i64 0, .str []])),
 p (.store (some 5) (.r 0) (.r 1))] [(0, .v 0), (2, .v 2), (4, .v 4), (5, .r 1)])
 (.seq
 (.reg false [p (.mov (.v 4)),
 p (.call false (.k (.fn 46 [] [])) [.r 0, .k (.int .i64 1)]),
 p (.fad 0 (.v 5)),
 p (.store (none) (.r 0) (.r 1))] [(0, .v 0), (2, .v 2), (4, .v 4), (5, .v 5)])
 (.seq
 (.reg false [p (.mov (.v 4)),
 p (.call false (.k (.fn 46 [] [])) [.r 0, .k (.int .i64 1)]),
 p (.fad 1 (.v 5)),
 p (.store (none) (.r 0) (.r 1))] [(0, .v 0), (2, .v 2), (4, .v 4), (5, .v 5)])
 (.seq
 (.reg false [p (.mov (.v 4)),
 p (.call false (.k (.fn 46 [] [])) [.r 0, .k (.int .i64 6)]),
 p (.fad 2 (.v 5)),
 p (.store (none) (.r 0) (.r 1))] [(0, .v 0), (2, .v 2), (4, .v 4), (5, .v 5)])
 (.seq
 (.reg false [p (.mov (.v 4)),
 p (.call false (.k (.fn 46 [] [])) [.r 0, .k (.int .i64 6)]),
 p (.fad 3 (.v 5)),
 p (.store (none) (.r 0) (.r 1))] [(0, .v 0), (2, .v 2), (4, .v 4), (5, .v 5)])
 (.seq
 (.reg false [p (.mov (.v 4)),
 p (.call false (.k (.fn 47 [] [])) [.r 0]),
 p (.fad 4 (.v 5)),
 p (.store (none) (.r 0) (.r 1))] [(0, .v 0), (2, .v 2), (4, .v 4), (5, .v 5)])
 (.seq
 (.seq
 (.reg false [p (.mov (.v 4)),
 p (.nck (.r 0)),
 p (.fad 2 (.r 0)),
 p (.load (none) (.r 0)),
 p (.bin .neq (.r 0) (.k (.int .i64 0)))] [(0, .v 0), (2, .v 2), (4, .v 4), (5, .v 5), (29, .r 0)])
 (.cond (.v 29)
 (.seq
 (.reg true [p (.build [.int .i64 0, .int .i64 0, .int .i64 0, .int .i64 0, .str []] []),
 p (.mov (.v 4)),
 p (.nck (.r 0)),
 p (.fad 2 (.r 0)),
 p (.load (none) (.r 0)),
 ⟨.store (some 5) (.v 2) (.r 4), none, [0]⟩,
 p (.mov (.r 1))] [(2, .v 2), (3, .r 0)])
 .ret)
 .skip))
 (.seq
 (.seq
 (.reg false [p (.mov (.v 4)),
 p (.nck (.r 0)),
 p (.fad 1 (.r 0)),
 p (.load (none) (.r 0)),
 p (.mov (.v 0)),
 p (.len true (.r 0)),
 p (.bin .neq (.r 2) (.r 0)),
 p (.mov (.r 0)),
 ⟨.load (some 5) (.v 5), some (0, false), []⟩,
 ⟨.call true (.k (.fn 43 [] [])) [.r 0], some (1, false), []⟩,
 ⟨.un .not (.r 0), some (2, false), []⟩,
 p (.pick (.r 3) (.k (.bool true)) (.r 0))] [(2, .v 2), (5, .v 5), (46, .r 0)])
 (.cond (.v 46)
 (.seq
 (.reg false [p (.build [.int .i64 0, .int .i64 0, .int .i64 0, .int .i64 0, .str []] []),
 p (.store (some 5) (.v 2) (.r 0)),
 p (.mov (.k (.int .i64 4)))] [(2, .v 2), (3, .r 0)])
 .ret)
 .skip))
 (.seq
 (.reg false [p (.load (some 5) (.v 5)),
 p (.store (some 5) (.v 2) (.r 0)),
 p (.mov (.k (.int .i64 0)))] [(2, .v 2), (3, .r 0)])
 .ret)))))))))))
def r48 : List RV := [.c 2 (some 5), .t 3]
theorem chk48 : Chk Try.prog Try.f48 c48 r48 := ⟨_, rfl, by kernel_rfl, by kernel_rfl⟩
theorem en48 : EnP Try.prog 48 49 c48 r48 := mkEnP (by kernel_rfl) Try.func48 (by kernel_rfl) chk48

/-- `penelope/peneloperef23.six` -/
def c27 : C :=
  (.seq
 (.reg false [p (.mov (.k (.bool false)))] [(0, .v 0)])
 (.seq
 (.reg false [p (.mov (.v 0)),
 p (.bin .geq (.r 0) (.k (.int .i64 0))),
 p (.mov (.r 0)),
 ⟨.mov (.v 0), some (0, true), []⟩,
 ⟨.bin .lss (.r 0) (.k (.int .i64 281474976710656)), some (1, true), []⟩,
 p (.pick (.r 2) (.r 0) (.k (.bool false))),
 p (.mov (.r 0))] [(2, .r 0)])
 .ret))
def r27 : List RV := [.t 2]
theorem chk27 : Chk Try.prog Try.f27 c27 r27 := ⟨_, rfl, by kernel_rfl, by kernel_rfl⟩
theorem en27 : EnP Try.prog 27 9 c27 r27 := mkEnP (by kernel_rfl) Try.func27 (by kernel_rfl) chk27

/-- `penelope/peneloperef23.text` -/
def c31 : C :=
  (.seq
 (.reg false [p (.mov (.k (.str [])))] [(0, .v 0)])
 (.seq
 (.reg false [p (.mov (.v 0)),
 p (.call true (.k (.fn 59 [] [])) [.r 0]),
 p (.mov (.r 0)),
 p (.ext (.r 0) 0),
 p (.ext (.r 1) 1),
 p (.mov (.r 1)),
 p (.mov (.r 1))] [(3, .r 1)])
 (.seq
 (.reg false [p (.mov (.v 3)),
 p (.mov (.r 0))] [(2, .r 0)])
 .ret)))
def r31 : List RV := [.t 2]
theorem chk31 : Chk Try.prog Try.f31 c31 r31 := ⟨_, rfl, by kernel_rfl, by kernel_rfl⟩
theorem en31 : EnP Try.prog 31 11 c31 r31 := mkEnP (by kernel_rfl) Try.func31 (by kernel_rfl) chk31

/-- `penelope/peneloperef23.number` -/
def c32 : C :=
  (.seq
 (.reg false [p (.mov (.k (.str [])))] [(0, .v 0), (1, .v 1)])
 (.seq
 (.reg false [p (.mov (.v 0)),
 p (.mov (.v 1)),
 p (.call true (.k (.fn 61 [] [])) [.r 1, .r 0]),
 p (.mov (.r 0)),
 p (.ext (.r 0) 0),
 p (.ext (.r 1) 1),
 p (.mov (.r 1)),
 p (.mov (.r 1))] [(5, .r 1)])
 (.seq
 (.reg false [p (.mov (.v 5)),
 p (.mov (.r 0))] [(4, .r 0)])
 .ret)))
def r32 : List RV := [.t 4]
theorem chk32 : Chk Try.prog Try.f32 c32 r32 := ⟨_, rfl, by kernel_rfl, by kernel_rfl⟩
theorem en32 : EnP Try.prog 32 14 c32 r32 := mkEnP (by kernel_rfl) Try.func32 (by kernel_rfl) chk32

/-- `penelope/peneloperef23.Answer` -/
def c17 : C :=
  (.seq
 (.reg false [p (.box 6 (.v 0)),
 p (.mov (.k (.str []))),
 p (.mov (.k (.int .i64 0)))] [(1, .r 2)])
 (.seq
 (.seq
 (.reg false [p (.fad 0 (.v 1)),
 p (.load (none) (.r 0)),
 p (.bin .lss (.r 0) (.k (.int .i64 0))),
 p (.mov (.r 0)),
 ⟨.fad 0 (.v 1), some (0, false), []⟩,
 ⟨.load (none) (.r 0), some (1, false), []⟩,
 ⟨.bin .gtr (.r 0) (.k (.int .i64 65535)), some (2, false), []⟩,
 p (.pick (.r 3) (.k (.bool true)) (.r 0)),
 p (.mov (.r 0)),
 ⟨.fad 1 (.v 1), some (0, false), []⟩,
 ⟨.load (none) (.r 0), some (1, false), []⟩,
 ⟨.len true (.r 0), some (2, false), []⟩,
 ⟨.bin .gtr (.r 0) (.k (.int .i64 255)), some (3, false), []⟩,
 p (.pick (.r 4) (.k (.bool true)) (.r 0)),
 p (.mov (.r 0)),
 ⟨.fad 2 (.v 1), some (0, false), []⟩,
 ⟨.load (none) (.r 0), some (1, false), []⟩,
 ⟨.bin .lss (.r 0) (.k (.int .i64 0)), some (2, false), []⟩,
 p (.pick (.r 3) (.k (.bool true)) (.r 0)),
 p (.mov (.r 0)),
 ⟨.fad 2 (.v 1), some (0, false), []⟩,
 ⟨.load (none) (.r 0), some (1, false), []⟩,
 ⟨.bin .gtr (.r 0) (.k (.int .i64 255)), some (2, false), []⟩,
 p (.pick (.r 3) (.k (.bool true)) (.r 0)),
 p (.mov (.r 0)),
 ⟨.fad 3 (.v 1), some (0, false), []⟩,
 ⟨.load (none) (.r 0), some (1, false), []⟩,
 ⟨.call true (.k (.fn 27 [] [])) [.r 0], some (2, false), []⟩,
 ⟨.un .not (.r 0), some (3, false), []⟩,
 p (.pick (.r 4) (.k (.bool true)) (.r 0)),
 p (.mov (.r 0)),
 ⟨.fad 4 (.v 1), some (0, false), []⟩,
 ⟨.load (none) (.r 0), some (1, false), []⟩,
 ⟨.bin .lss (.r 0) (.k (.int .i64 0)), some (2, false), []⟩,
 p (.pick (.r 3) (.k (.bool true)) (.r 0)),
 p (.mov (.r 0)),
 ⟨.fad 4 (.v 1), some (0, false), []⟩,
 ⟨.load (none) (.r 0), some (1, false), []⟩,
 ⟨.bin .gtr (.r 0) (.k (.int .i64 255)), some (2, false), []⟩,
 p (.pick (.r 3) (.k (.bool true)) (.r 0)),
 p (.mov (.r 0)),
 ⟨.fad 5 (.v 1), some (0, false), []⟩,
 ⟨.load (none) (.r 0), some (1, false), []⟩,
 ⟨.len false (.r 0), some (2, false), []⟩,
 ⟨.bin .gtr (.r 0) (.k (.int .i64 255)), some (3, false), []⟩,
 p (.pick (.r 4) (.k (.bool true)) (.r 0))] [(1, .v 1), (52, .r 0)])
 (.cond (.v 52)
 (.seq
 (.reg false [p (.mov (.k (.str []))),
 p (.mov (.k (.int .i64 1)))] [(2, .r 1), (3, .r 0)])
 .ret)
 .skip))
 (.seq
 (.reg true [p (.fad 0 (.v 1)),
 p (.load (none) (.r 0)),
 p (.call true (.k (.fn 32 [] [])) [.r 0, .k (.int .i64 2)]),
 p (.fad 1 (.v 1)),
 p (.load (none) (.r 0)),
 p (.call true (.k (.fn 31 [] [])) [.r 0]),
 p (.bin .add (.r 3) (.r 0)),
 p (.fad 2 (.v 1)),
 p (.load (none) (.r 0)),
 p (.call true (.k (.fn 32 [] [])) [.r 0, .k (.int .i64 1)]),
 p (.bin .add (.r 3) (.r 0)),
 p (.fad 3 (.v 1)),
 p (.load (none) (.r 0)),
 p (.call true (.k (.fn 32 [] [])) [.r 0, .k (.int .i64 6)]),
 p (.bin .add (.r 3) (.r 0)),
 p (.fad 4 (.v 1)),
 p (.load (none) (.r 0)),
 p (.call true (.k (.fn 32 [] [])) [.r 0, .k (.int .i64 1)]),
 p (.bin .add (.r 3) (.r 0)),
 p (.fad 5 (.v 1)),
 p (.load (none) (.r 0)),
 p (.len false (.r 0)),
 p (.call true (.k (.fn 32 [] [])) [.r 0, .k (.int .i64 1)]),
 p (.bin .add (.r 4) (.r 0)),
 p (.mov (.r 0))] [(1, .v 1), (4, .r 0)])
 (.seq
 (.seq
 (.reg false [p (.fad 5 (.v 1)),
 p (.load (none) (.r 0)),
 p (.len false (.r 0)),
 p (.mov (.k (.int .i64 0)))] [(4, .v 4), (78, .r 2), (79, .r 1), (80, .r 0)])
 (.block 0
 (.loop
 (.seq
 (.reg false [p (.bin .lss (.v 80) (.v 79))] [(4, .v 4), (78, .v 78), (79, .v 79), (80, .v 80), (81, .r 0)])
 (.seq
 (.cond (.v 81)
 .skip
 (.exit 0))
 (.seq
 (.block 1
 (.seq
 (.reg false [p (.iad 5 (.v 78) (.v 80)),
 p (.load (some 5) (.r 0)),
 p (.alloc 5 (.agg [.int .i64 0, .int .i64 0, .int .i64 0, .int .i64 0, .str []])),
 p (.store (some 5) (.r 0) (.r 1))] [(4, .v 4), (6, .r 1), (78, .v 78), (79, .v 79), (80, .v 80)])
 (.seq
 (.seq
 (.reg false [p (.load (some 5) (.v 6)),
 p (.call true (.k (.fn 43 [] [])) [.r 0]),
 p (.un .not (.r 0))] [(4, .v 4), (6, .v 6), (78, .v 78), (79, .v 79), (80, .v 80), (86, .r 0)])
 (.cond (.v 86)
 (.seq
 (.reg false [p (.mov (.k (.str []))),
 p (.mov (.k (.int .i64 1)))] [(2, .r 1), (3, .r 0)])
 .ret)
 .skip))
 (.reg false [p (.mov (.v 4)),
 p (.load (some 5) (.v 6)),
 p (.call true (.k (.fn 44 [] [])) [.r 0]),
 p (.call true (.k (.fn 31 [] [])) [.r 0]),
 p (.bin .add (.r 3) (.r 0)),
 p (.mov (.r 0))] [(4, .r 0), (78, .v 78), (79, .v 79), (80, .v 80)]))))
 (.reg false [p (.bin .add (.v 80) (.k (.int .i64 1))),
 p (.mov (.r 0))] [(4, .v 4), (78, .v 78), (79, .v 79), (80, .r 0)])))))))
 (.frz
 (.seq
 (.reg false [p (.mov (.v 4)),
 p (.call true (.k (.fn 33 [] [])) [.r 0]),
 p (.mov (.r 0)),
 p (.mov (.k (.int .i64 0)))] [(2, .r 1), (3, .r 0)])
 .ret))))))
def r17 : List RV := [.t 2, .t 3]
theorem chk17 : Chk Try.prog Try.f17 c17 r17 := ⟨_, rfl, by kernel_rfl, by kernel_rfl⟩
theorem en17 : EnP Try.prog 17 95 c17 r17 := mkEnP (by kernel_rfl) Try.func17 (by kernel_rfl) chk17

/-- `penelope/frame.Answer` -/
def c16 : C :=
  (.seq
 (.reg false [p (.box 6 (.v 0)),
 p (.mov (.k (.str []))),
 p (.mov (.k (.int .i64 0)))] [(1, .r 2)])
 (.seq
 (.reg false [p (.build [.str [], .bool false] []),
 p (.box 2 (.r 0)),
 p (.mov (.r 0))] [(1, .v 1), (4, .r 0)])
 (.seq
 (.reg false [p (.mov (.v 4)),
 p (.fad 0 (.v 1)),
 p (.load (none) (.r 0)),
 p (.call false (.k (.fn 22 [] [])) [.r 2, .r 0, .k (.int .i64 2)])] [(1, .v 1), (4, .v 4)])
 (.seq
 (.reg false [p (.mov (.v 4)),
 p (.fad 1 (.v 1)),
 p (.load (none) (.r 0)),
 p (.call false (.k (.fn 25 [] [])) [.r 2, .r 0])] [(1, .v 1), (4, .v 4)])
 (.seq
 (.reg false [p (.mov (.v 4)),
 p (.fad 2 (.v 1)),
 p (.load (none) (.r 0)),
 p (.call false (.k (.fn 22 [] [])) [.r 2, .r 0, .k (.int .i64 1)])] [(1, .v 1), (4, .v 4)])
 (.seq
 (.reg false [p (.mov (.v 4)),
 p (.fad 3 (.v 1)),
 p (.load (none) (.r 0)),
 p (.call false (.k (.fn 22 [] [])) [.r 2, .r 0, .k (.int .i64 6)])] [(1, .v 1), (4, .v 4)])
 (.seq
 (.reg false [p (.mov (.v 4)),
 p (.fad 4 (.v 1)),
 p (.load (none) (.r 0)),
 p (.call false (.k (.fn 22 [] [])) [.r 2, .r 0, .k (.int .i64 1)])] [(1, .v 1), (4, .v 4)])
 (.seq
 (.reg false [p (.mov (.v 4)),
 p (.fad 5 (.v 1)),
 p (.load (none) (.r 0)),
 p (.len false (.r 0)),
 p (.call false (.k (.fn 22 [] [])) [.r 3, .r 0, .k (.int .i64 1)])] [(1, .v 1), (4, .v 4)])
 (.seq
 (.seq
 (.reg false [p (.mov (.v 4)),
 p (.nck (.r 0)),
 p (.fad 1 (.r 0)),
 p (.load (none) (.r 0))] [(1, .v 1), (4, .v 4), (39, .r 0)])
 (.cond (.v 39)
 (.seq
 (.reg false [p (.mov (.k (.str []))),
 p (.mov (.k (.int .i64 1)))] [(2, .r 1), (3, .r 0)])
 .ret)
 .skip))
 (.seq
 (.seq
 (.reg false [p (.fad 5 (.v 1)),
 p (.load (none) (.r 0)),
 p (.len false (.r 0)),
 p (.mov (.k (.int .i64 0)))] [(4, .v 4), (41, .r 2), (42, .r 1), (43, .r 0)])
 (.block 0
 (.loop
 (.seq
 (.reg false [p (.bin .lss (.v 43) (.v 42))] [(4, .v 4), (41, .v 41), (42, .v 42), (43, .v 43), (44, .r 0)])
 (.seq
 (.cond (.v 44)
 .skip
 (.exit 0))
 (.seq
 (.block 1
 (.seq
 (.reg false [p (.iad 5 (.v 41) (.v 43)),
 p (.load (some 5) (.r 0)),
 p (.alloc 5 (.agg [.int .i64 0, .int .i64 0, .int .i64 0, .int .i64 0, .str []])),
 p (.store (some 5) (.r 0) (.r 1))] [(4, .v 4), (6, .r 1), (41, .v 41), (42, .v 42), (43, .v 43)])
 (.seq
 (.reg false [p (.load (some 5) (.v 6)),
 p (.call true (.k (.fn 42 [] [])) [.r 0]),
 p (.mov (.r 0)),
 p (.ext (.r 0) 0),
 p (.ext (.r 1) 1),
 p (.mov (.r 1)),
 p (.mov (.r 1))] [(4, .v 4), (7, .r 1), (8, .r 0), (41, .v 41), (42, .v 42), (43, .v 43)])
 (.seq
 (.reg false [p (.mov (.v 4)),
 p (.mov (.v 7)),
 p (.call false (.k (.fn 25 [] [])) [.r 1, .r 0])] [(4, .v 4), (8, .v 8), (41, .v 41), (42, .v 42), (43, .v 43)])
 (.reg false [p (.mov (.v 4)),
 p (.mov (.v 4)),
 p (.nck (.r 0)),
 p (.fad 1 (.r 0)),
 p (.load (none) (.r 0)),
 p (.mov (.r 0)),
 ⟨.mov (.v 8), some (0, false), []⟩,
 ⟨.bin .neq (.r 0) (.k (.int .i64 0)), some (1, false), []⟩,
 p (.pick (.r 2) (.k (.bool true)) (.r 0)),
 p (.nck (.r 8)),
 p (.fad 1 (.r 0)),
 p (.store (none) (.r 0) (.r 2))] [(4, .v 4), (41, .v 41), (42, .v 42), (43, .v 43)])))))
 (.reg false [p (.bin .add (.v 43) (.k (.int .i64 1))),
 p (.mov (.r 0))] [(4, .v 4), (41, .v 41), (42, .v 42), (43, .r 0)])))))))
 (.frz
 (.seq
 (.reg false [p (.mov (.v 4)),
 p (.call false (.k (.fn 26 [] [])) [.r 0]),
 p (.ext (.r 0) 0),
 p (.ext (.r 1) 1),
 p (.mov (.r 1)),
 p (.mov (.r 1))] [(2, .r 1), (3, .r 0)])
 .ret))))))))))))
def r16 : List RV := [.t 2, .t 3]
theorem chk16 : Chk Try.prog Try.f16 c16 r16 := ⟨_, rfl, by kernel_rfl, by kernel_rfl⟩
theorem en16 : EnP Try.prog 16 71 c16 r16 := mkEnP (by kernel_rfl) Try.func16 (by kernel_rfl) chk16

/-- `penelope/frame.Told` -/
def c18 : C :=
  (.seq
 (.reg false [p (.alloc 6 (.agg [.int .i64 0, .str [], .int .i64 0, .int .i64 0, .int .i64 0, .fsl .nil 5 []])),
 p (.mov (.k (.int .i64 0)))] [(0, .v 0), (2, .r 1)])
 (.seq
 (.reg false [p (.mov (.v 0)),
 p (.call false (.k (.fn 34 [] [])) [.r 0]),
 p (.mov (.r 0))] [(2, .v 2), (4, .r 0)])
 (.seq
 (.reg false [p (.alloc 6 (.agg [.int .i64 0, .str [], .int .i64 0, .int .i64 0, .int .i64 0, .fsl .nil 5 []]))] [(2, .v 2), (4, .v 4), (5, .r 0)])
 (.seq
 (.reg false [p (.mov (.v 4)),
 p (.call false (.k (.fn 35 [] [])) [.r 0, .k (.int .i64 2)]),
 p (.fad 0 (.v 5)),
 p (.store (none) (.r 0) (.r 1))] [(2, .v 2), (4, .v 4), (5, .v 5)])
 (.seq
 (.reg false [p (.mov (.v 4)),
 p (.call false (.k (.fn 36 [] [])) [.r 0]),
 p (.fad 1 (.v 5)),
 p (.store (none) (.r 0) (.r 1))] [(2, .v 2), (4, .v 4), (5, .v 5)])
 (.seq
 (.reg false [p (.mov (.v 4)),
 p (.call false (.k (.fn 35 [] [])) [.r 0, .k (.int .i64 1)]),
 p (.fad 2 (.v 5)),
 p (.store (none) (.r 0) (.r 1))] [(2, .v 2), (4, .v 4), (5, .v 5)])
 (.seq
 (.reg false [p (.mov (.v 4)),
 p (.call false (.k (.fn 35 [] [])) [.r 0, .k (.int .i64 6)]),
 p (.fad 3 (.v 5)),
 p (.store (none) (.r 0) (.r 1))] [(2, .v 2), (4, .v 4), (5, .v 5)])
 (.seq
 (.reg false [p (.mov (.v 4)),
 p (.call false (.k (.fn 35 [] [])) [.r 0, .k (.int .i64 1)]),
 p (.fad 4 (.v 5)),
 p (.store (none) (.r 0) (.r 1))] [(2, .v 2), (4, .v 4), (5, .v 5)])
 (.seq
 (.seq
 (.reg false [p (.mov (.v 4)),
 p (.call false (.k (.fn 35 [] [])) [.r 0, .k (.int .i64 1)]),
 p (.mov (.r 0))] [(2, .v 2), (4, .v 4), (5, .v 5), (6, .r 0)])
 (.block 0
 (.loop
 (.seq
 (.seq
 (.reg false [p (.mov (.v 6)),
 p (.bin .gtr (.r 0) (.k (.int .i64 0))),
 p (.mov (.r 0)),
 ⟨.mov (.v 4), some (0, true), []⟩,
 ⟨.nck (.r 0), some (1, true), []⟩,
 ⟨.fad 2 (.r 0), some (2, true), []⟩,
 ⟨.load (none) (.r 0), some (3, true), []⟩,
 ⟨.un .not (.r 0), some (4, true), []⟩,
 p (.pick (.r 5) (.r 0) (.k (.bool false)))] [(2, .v 2), (4, .v 4), (5, .v 5), (6, .v 6), (36, .r 0)])
 (.cond (.v 36)
 .skip
 (.exit 0)))
 (.seq
 (.block 1
 (.seq
 (.reg false [p (.mov (.v 4)),
 p (.call false (.k (.fn 36 [] [])) [.r 0]),
 p (.call true (.k (.fn 45 [] [])) [.r 0]),
 p (.mov (.r 0)),
 p (.ext (.r 0) 0),
 p (.ext (.r 1) 1),
 p (.alloc 5 (.agg [.int .i64 0, .int .i64 0, .int .i64 0, .int .i64 0, .str []])),
 p (.store (some 5) (.r 0) (.r 2)),
 p (.mov (.r 2))] [(2, .v 2), (4, .v 4), (5, .v 5), (6, .v 6), (7, .r 2), (8, .r 0)])
 (.seq
 (.reg false [p (.mov (.v 4)),
 p (.mov (.v 4)),
 p (.nck (.r 0)),
 p (.fad 2 (.r 0)),
 p (.load (none) (.r 0)),
 p (.mov (.r 0)),
 ⟨.mov (.v 8), some (0, false), []⟩,
 ⟨.bin .neq (.r 0) (.k (.int .i64 0)), some (1, false), []⟩,
 p (.pick (.r 2) (.k (.bool true)) (.r 0)),
 p (.nck (.r 8)),
 p (.fad 2 (.r 0)),
 p (.store (none) (.r 0) (.r 2))] [(2, .v 2), (4, .v 4), (5, .v 5), (6, .v 6), (7, .v 7)])
 (.reg false [p (.fad 5 (.v 5)),
 p (.load (none) (.r 0)),
 p (.load (some 5) (.v 7)),
 p (.bsl 5 [.r 0]),
 p (.app 5 48 (.r 2) (.r 0)),
 p (.fad 5 (.v 5)),
 p (.store (none) (.r 0) (.r 1))] [(2, .v 2), (4, .v 4), (5, .v 5), (6, .v 6)]))))
 (.reg false [p (.mov (.v 6)),
 p (.bin .sub (.r 0) (.k (.int .i64 1))),
 p (.mov (.r 0))] [(2, .v 2), (4, .v 4), (5, .v 5), (6, .r 0)]))))))
 (.frz
 (.seq
 (.seq
 (.reg true [p (.mov (.v 4)),
 p (.nck (.r 0)),
 p (.fad 2 (.r 0)),
 p (.load (none) (.r 0)),
 p (.mov (.r 0)),
 ⟨.mov (.v 4), some (0, false), []⟩,
 ⟨.nck (.r 0), some (1, false), []⟩,
 ⟨.fad 1 (.r 0), some (2, false), []⟩,
 ⟨.load (none) (.r 0), some (3, false), []⟩,
 ⟨.mov (.v 4), some (4, false), []⟩,
 ⟨.nck (.r 0), some (5, false), []⟩,
 ⟨.fad 0 (.r 0), some (6, false), []⟩,
 ⟨.load (none) (.r 0), some (7, false), []⟩,
 ⟨.len true (.r 0), some (8, false), []⟩,
 ⟨.bin .neq (.r 5) (.r 0), some (9, false), []⟩,
 p (.pick (.r 10) (.k (.bool true)) (.r 0))] [(2, .v 2), (5, .v 5), (77, .r 0)])
 (.cond (.v 77)
 (.seq
 (.reg false [p (.build [.int .i64 0, .str [], .int .i64 0, .int .i64 0, .int .i64 0, .fsl .nil 5 []] []),
 p (.store (some 6) (.v 2) (.r 0)),
 p (.mov (.k (.int .i64 230)))] [(2, .v 2), (3, .r 0)])
 .ret)
 .skip))
 (.seq
 (.reg false [p (.load (some 6) (.v 5)),
 p (.store (some 6) (.v 2) (.r 0)),
 p (.mov (.k (.int .i64 0)))] [(2, .v 2), (3, .r 0)])
 .ret))))))))))))
def r18 : List RV := [.c 2 (some 6), .t 3]
theorem chk18 : Chk Try.prog Try.f18 c18 r18 := ⟨_, rfl, by kernel_rfl, by kernel_rfl⟩
theorem en18 : EnP Try.prog 18 80 c18 r18 := mkEnP (by kernel_rfl) Try.func18 (by kernel_rfl) chk18

/-- `penelope/peneloperef23.Told` -/
def c19 : C :=
  (.seq
 (.reg false [p (.alloc 6 (.agg [.int .i64 0, .str [], .int .i64 0, .int .i64 0, .int .i64 0, .fsl .nil 5 []])),
 p (.mov (.k (.int .i64 0)))] [(0, .v 0), (2, .r 1)])
 (.seq
 (.reg false [p (.mov (.v 0)),
 p (.call true (.k (.fn 39 [] [])) [.r 0]),
 p (.mov (.r 0)),
 p (.ext (.r 0) 0),
 p (.ext (.r 1) 1),
 p (.mov (.r 1)),
 p (.mov (.r 1))] [(0, .v 0), (2, .v 2), (4, .r 1), (5, .r 0)])
 (.seq
 (.seq
 (.reg false [p (.mov (.v 5)),
 p (.bin .neq (.r 0) (.k (.int .i64 0)))] [(0, .v 0), (2, .v 2), (4, .v 4), (20, .r 0)])
 (.cond (.v 20)
 (.seq
 (.reg false [p (.build [.int .i64 0, .str [], .int .i64 0, .int .i64 0, .int .i64 0, .fsl .nil 5 []] []),
 p (.store (some 6) (.v 2) (.r 0)),
 p (.mov (.k (.int .i64 230)))] [(2, .v 2), (3, .r 0)])
 .ret)
 .skip))
 (.seq
 (.reg false [p (.mov (.v 4)),
 p (.build [.str [], .int .i64 0, .int .i64 0] [(0, 1, .r 0)]),
 p (.box 3 (.r 0)),
 p (.mov (.r 0))] [(0, .v 0), (2, .v 2), (6, .r 0)])
 (.seq
 (.reg false [p (.mov (.v 6)),
 p (.call false (.k (.fn 46 [] [])) [.r 0, .k (.int .i64 2)]),
 p (.build [.int .i64 0, .str [], .int .i64 0, .int .i64 0, .int .i64 0, .fsl .nil 5 []] [(0, 1, .r 0)]),
 p (.alloc 6 (.agg [.int .i64 0, .str [], .int .i64 0, .int .i64 0, .int .i64 0, .fsl .nil 5 []])),
 p (.store (some 6) (.r 0) (.r 1))] [(0, .v 0), (2, .v 2), (6, .v 6), (7, .r 1)])
 (.seq
 (.reg false [p (.mov (.v 6)),
 p (.call false (.k (.fn 47 [] [])) [.r 0]),
 p (.fad 1 (.v 7)),
 p (.store (none) (.r 0) (.r 1))] [(0, .v 0), (2, .v 2), (6, .v 6), (7, .v 7)])
 (.seq
 (.reg false [p (.mov (.v 6)),
 p (.call false (.k (.fn 46 [] [])) [.r 0, .k (.int .i64 1)]),
 p (.fad 2 (.v 7)),
 p (.store (none) (.r 0) (.r 1))] [(0, .v 0), (2, .v 2), (6, .v 6), (7, .v 7)])
 (.seq
 (.reg false [p (.mov (.v 6)),
 p (.call false (.k (.fn 46 [] [])) [.r 0, .k (.int .i64 6)]),
 p (.fad 3 (.v 7)),
 p (.store (none) (.r 0) (.r 1))] [(0, .v 0), (2, .v 2), (6, .v 6), (7, .v 7)])
 (.seq
 (.reg false [p (.mov (.v 6)),
 p (.call false (.k (.fn 46 [] [])) [.r 0, .k (.int .i64 1)]),
 p (.fad 4 (.v 7)),
 p (.store (none) (.r 0) (.r 1))] [(0, .v 0), (2, .v 2), (6, .v 6), (7, .v 7)])
 (.seq
 (.reg false [p (.mov (.v 6)),
 p (.call false (.k (.fn 46 [] [])) [.r 0, .k (.int .i64 1)]),
 p (.mov (.r 0))] [(0, .v 0), (2, .v 2), (6, .v 6), (7, .v 7), (8, .r 0)])
 (.seq
 (.seq
 (.reg false [p (.mov (.k (.int .i64 0)))] [(0, .v 0), (2, .v 2), (6, .v 6), (7, .v 7), (8, .v 8), (9, .r 0)])
 (.block 0
 (.loop
 (.seq
 (.seq
 (.reg false [p (.mov (.v 9)),
 p (.mov (.v 8)),
 p (.bin .lss (.r 1) (.r 0))] [(0, .v 0), (2, .v 2), (6, .v 6), (7, .v 7), (8, .v 8), (9, .v 9), (44, .r 0)])
 (.cond (.v 44)
 .skip
 (.exit 0)))
 (.seq
 (.block 1
 (.seq
 (.reg false [p (.mov (.v 6)),
 p (.call false (.k (.fn 47 [] [])) [.r 0]),
 p (.call true (.k (.fn 48 [] [])) [.r 0]),
 p (.mov (.r 0)),
 p (.ext (.r 0) 0),
 p (.ext (.r 1) 1),
 p (.alloc 5 (.agg [.int .i64 0, .int .i64 0, .int .i64 0, .int .i64 0, .str []])),
 p (.store (some 5) (.r 0) (.r 2)),
 p (.mov (.r 2))] [(0, .v 0), (2, .v 2), (6, .v 6), (7, .v 7), (8, .v 8), (9, .v 9), (10, .r 2), (11, .r 0)])
 (.seq
 (.seq
 (.reg false [p (.mov (.v 11)),
 p (.bin .neq (.r 0) (.k (.int .i64 0)))] [(0, .v 0), (2, .v 2), (6, .v 6), (7, .v 7), (8, .v 8), (9, .v 9), (10, .v 10), (54, .r 0)])
 (.cond (.v 54)
 (.seq
 (.reg false [p (.build [.int .i64 0, .str [], .int .i64 0, .int .i64 0, .int .i64 0, .fsl .nil 5 []] []),
 p (.store (some 6) (.v 2) (.r 0)),
 p (.mov (.k (.int .i64 230)))] [(2, .v 2), (3, .r 0)])
 .ret)
 .skip))
 (.reg false [p (.fad 5 (.v 7)),
 p (.load (none) (.r 0)),
 p (.load (some 5) (.v 10)),
 p (.bsl 5 [.r 0]),
 p (.app 5 48 (.r 2) (.r 0)),
 p (.fad 5 (.v 7)),
 p (.store (none) (.r 0) (.r 1))] [(0, .v 0), (2, .v 2), (6, .v 6), (7, .v 7), (8, .v 8), (9, .v 9)]))))
 (.reg false [p (.mov (.v 9)),
 p (.bin .add (.r 0) (.k (.int .i64 1))),
 p (.mov (.r 0))] [(0, .v 0), (2, .v 2), (6, .v 6), (7, .v 7), (8, .v 8), (9, .r 0)]))))))
 (.frz
 (.seq
 (.reg false [p (.load (some 6) (.v 7)),
 p (.call true (.k (.fn 17 [] [])) [.r 0]),
 p (.mov (.r 0)),
 p (.ext (.r 0) 0),
 p (.ext (.r 1) 1),
 p (.mov (.r 1)),
 p (.mov (.r 1))] [(0, .v 0), (2, .v 2), (7, .v 7), (12, .r 1), (13, .r 0)])
 (.seq
 (.seq
 (.reg false [p (.mov (.v 13)),
 p (.bin .neq (.r 0) (.k (.int .i64 0))),
 p (.mov (.r 0)),
 ⟨.mov (.v 12), some (0, false), []⟩,
 ⟨.mov (.v 0), some (1, false), []⟩,
 ⟨.bin .neq (.r 1) (.r 0), some (2, false), []⟩,
 p (.pick (.r 3) (.k (.bool true)) (.r 0))] [(2, .v 2), (7, .v 7), (73, .r 0)])
 (.cond (.v 73)
 (.seq
 (.reg false [p (.build [.int .i64 0, .str [], .int .i64 0, .int .i64 0, .int .i64 0, .fsl .nil 5 []] []),
 p (.store (some 6) (.v 2) (.r 0)),
 p (.mov (.k (.int .i64 230)))] [(2, .v 2), (3, .r 0)])
 .ret)
 .skip))
 (.seq
 (.reg false [p (.load (some 6) (.v 7)),
 p (.store (some 6) (.v 2) (.r 0)),
 p (.mov (.k (.int .i64 0)))] [(2, .v 2), (3, .r 0)])
 .ret)))))))))))))))
def r19 : List RV := [.c 2 (some 6), .t 3]
theorem chk19 : Chk Try.prog Try.f19 c19 r19 := ⟨_, rfl, by kernel_rfl, by kernel_rfl⟩
theorem en19 : EnP Try.prog 19 76 c19 r19 := mkEnP (by kernel_rfl) Try.func19 (by kernel_rfl) chk19

/-- `penelope/peneloperef19.SameStates` -/
def c49 : C :=
  (.seq
 (.reg false [p (.mov (.k (.bool false)))] [(0, .v 0), (1, .v 1)])
 (.seq
 (.seq
 (.reg false [p (.mov (.v 0)),
 p (.len false (.r 0)),
 p (.mov (.v 1)),
 p (.len false (.r 0)),
 p (.bin .neq (.r 2) (.r 0))] [(0, .v 0), (1, .v 1), (10, .r 0)])
 (.cond (.v 10)
 (.seq
 (.reg false [p (.mov (.k (.bool false)))] [(4, .r 0)])
 .ret)
 .skip))
 (.seq
 (.seq
 (.reg false [p (.mov (.v 0)),
 p (.len false (.r 0)),
 p (.mov (.k (.int .i64 0)))] [(0, .v 0), (1, .v 1), (12, .r 1), (13, .r 0)])
 (.block 0
 (.loop
 (.seq
 (.reg false [p (.bin .lss (.v 13) (.v 12))] [(0, .v 0), (1, .v 1), (12, .v 12), (13, .v 13), (14, .r 0)])
 (.seq
 (.cond (.v 14)
 .skip
 (.exit 0))
 (.seq
 (.block 1
 (.seq
 (.reg false [p (.mov (.v 13)),
 p (.mov (.r 0))] [(0, .v 0), (1, .v 1), (5, .r 0), (12, .v 12), (13, .v 13)])
 (.seq
 (.reg true [p (.mov (.v 0)),
 p (.mov (.v 5)),
 p (.iad 5 (.r 1) (.r 0)),
 p (.load (some 5) (.r 0)),
 p (.mov (.v 1)),
 p (.mov (.v 5)),
 p (.iad 5 (.r 1) (.r 0)),
 p (.load (some 5) (.r 0)),
 p (.eqs true [0, 0, 0, 0, 1] (.r 4) (.r 0))] [(0, .v 0), (1, .v 1), (12, .v 12), (13, .v 13), (24, .r 0)])
 (.cond (.v 24)
 (.seq
 (.reg false [p (.mov (.k (.bool false)))] [(4, .r 0)])
 .ret)
 .skip))))
 (.reg false [p (.bin .add (.v 13) (.k (.int .i64 1))),
 p (.mov (.r 0))] [(0, .v 0), (1, .v 1), (12, .v 12), (13, .r 0)])))))))
 (.frz
 (.seq
 (.reg false [p (.mov (.k (.bool true)))] [(4, .r 0)])
 .ret)))))
def r49 : List RV := [.t 4]
theorem chk49 : Chk Try.prog Try.f49 c49 r49 := ⟨_, rfl, by kernel_rfl, by kernel_rfl⟩
theorem en49 : EnP Try.prog 49 26 c49 r49 := mkEnP (by kernel_rfl) Try.func49 (by kernel_rfl) chk49

/-- `penelope/peneloperef20.LikeAnswer` -/
def c20 : C :=
  (.seq
 (.reg false [p (.box 6 (.v 0)),
 p (.box 6 (.v 1)),
 p (.mov (.k (.bool false)))] [(2, .r 2), (3, .r 1)])
 (.seq
 (.reg false [p (.fad 0 (.v 2)),
 p (.load (none) (.r 0)),
 p (.fad 0 (.v 3)),
 p (.load (none) (.r 0)),
 p (.bin .eql (.r 2) (.r 0)),
 p (.mov (.r 0)),
 ⟨.fad 1 (.v 2), some (0, true), []⟩,
 ⟨.load (none) (.r 0), some (1, true), []⟩,
 ⟨.fad 1 (.v 3), some (2, true), []⟩,
 ⟨.load (none) (.r 0), some (3, true), []⟩,
 ⟨.bin .eql (.r 2) (.r 0), some (4, true), []⟩,
 p (.pick (.r 5) (.r 0) (.k (.bool false))),
 p (.mov (.r 0)),
 ⟨.fad 2 (.v 2), some (0, true), []⟩,
 ⟨.load (none) (.r 0), some (1, true), []⟩,
 ⟨.fad 2 (.v 3), some (2, true), []⟩,
 ⟨.load (none) (.r 0), some (3, true), []⟩,
 ⟨.bin .eql (.r 2) (.r 0), some (4, true), []⟩,
 p (.pick (.r 5) (.r 0) (.k (.bool false))),
 p (.mov (.r 0)),
 ⟨.fad 3 (.v 2), some (0, true), []⟩,
 ⟨.load (none) (.r 0), some (1, true), []⟩,
 ⟨.fad 3 (.v 3), some (2, true), []⟩,
 ⟨.load (none) (.r 0), some (3, true), []⟩,
 ⟨.bin .eql (.r 2) (.r 0), some (4, true), []⟩,
 p (.pick (.r 5) (.r 0) (.k (.bool false))),
 p (.mov (.r 0)),
 ⟨.fad 4 (.v 2), some (0, true), []⟩,
 ⟨.load (none) (.r 0), some (1, true), []⟩,
 ⟨.fad 4 (.v 3), some (2, true), []⟩,
 ⟨.load (none) (.r 0), some (3, true), []⟩,
 ⟨.bin .eql (.r 2) (.r 0), some (4, true), []⟩,
 p (.pick (.r 5) (.r 0) (.k (.bool false))),
 p (.mov (.r 0)),
 ⟨.fad 5 (.v 2), some (0, true), []⟩,
 ⟨.load (none) (.r 0), some (1, true), []⟩,
 ⟨.fad 5 (.v 3), some (2, true), []⟩,
 ⟨.load (none) (.r 0), some (3, true), []⟩,
 ⟨.call true (.k (.fn 49 [] [])) [.r 2, .r 0], some (4, true), []⟩,
 p (.pick (.r 5) (.r 0) (.k (.bool false))),
 p (.mov (.r 0))] [(4, .r 0)])
 .ret))
def r20 : List RV := [.t 4]
theorem chk20 : Chk Try.prog Try.f20 c20 r20 := ⟨_, rfl, by kernel_rfl, by kernel_rfl⟩
theorem en20 : EnP Try.prog 20 45 c20 r20 := mkEnP (by kernel_rfl) Try.func20 (by kernel_rfl) chk20

/-- `penelope/penelopelaw23.brief` -/
def c15 : C :=
  (.seq
 (.reg false [p (.box 6 (.v 0)),
 p (.alloc 6 (.agg [.int .i64 0, .str [], .int .i64 0, .int .i64 0, .int .i64 0, .fsl .nil 5 []]))] [(1, .r 1), (2, .r 0)])
 (.seq
 (.reg true [p (.fad 1 (.v 1)),
 p (.load (none) (.r 0)),
 p (.fad 1 (.v 1)),
 p (.load (none) (.r 0)),
 p (.len true (.r 0)),
 p (.mnx false (.r 0) [.k (.int .i64 300)]),
 p (.sls (.r 4) none (some (.r 0))),
 p (.fad 5 (.v 1)),
 p (.load (none) (.r 0)),
 p (.fad 5 (.v 1)),
 p (.load (none) (.r 0)),
 p (.len false (.r 0)),
 p (.mnx false (.r 0) [.k (.int .i64 300)]),
 p (.slc 5 (.r 4) none (some (.r 0)) none),
 p (.fad 1 (.v 1)),
 ⟨.store (none) (.r 0) (.r 8), none, [1]⟩,
 p (.fad 5 (.v 1)),
 p (.store (none) (.r 0) (.r 3))] [(1, .v 1), (2, .v 2)])
 (.seq
 (.reg false [p (.load (some 6) (.v 1)),
 p (.store (some 6) (.v 2) (.r 0))] [(2, .v 2)])
 .ret)))
def r15 : List RV := [.c 2 (some 6)]
theorem chk15 : Chk Try.prog Try.f15 c15 r15 := ⟨_, rfl, by kernel_rfl, by kernel_rfl⟩
theorem en15 : EnP Try.prog 15 20 c15 r15 := mkEnP (by kernel_rfl) Try.func15 (by kernel_rfl) chk15

/-- `penelope/frame.bare` -/
def c50 : C :=
  (.seq
 (.reg false [p (.box 8 (.v 0)),
 p (.alloc 8 (.agg [.int .i64 0, .str [], .str [], .int .i64 0, .int .i64 0, .str [], .str [], .fsl .nil 4 []]))] [(1, .r 1), (2, .r 0)])
 (.seq
 (.reg false [p (.fad 0 (.v 1)),
 p (.load (none) (.r 0)),
 p (.build [.int .i64 0, .str [], .str [], .int .i64 0, .int .i64 0, .str [], .str [], .fsl .nil 4 []] [(0, 1, .r 0)]),
 p (.alloc 8 (.agg [.int .i64 0, .str [], .str [], .int .i64 0, .int .i64 0, .str [], .str [], .fsl .nil 4 []])),
 p (.store (some 8) (.r 0) (.r 1))] [(1, .v 1), (2, .v 2), (3, .r 1)])
 (.seq
 (.seq
 (.reg false [p (.fad 0 (.v 1)),
 p (.load (none) (.r 0))] [(1, .v 1), (2, .v 2), (3, .v 3), (8, .r 0)])
 (.block 0
 (.seq
 (.reg false [p (.bin .eql (.v 8) (.k (.int .i64 1))),
 p (.mov (.r 0))] [(1, .v 1), (2, .v 2), (3, .v 3), (8, .v 8), (9, .r 0)])
 (.cond (.v 9)
 (.reg false [p (.fad 6 (.v 1)),
 p (.load (some 2) (.r 0)),
 p (.fad 6 (.v 3)),
 p (.store (some 2) (.r 0) (.r 1))] [(2, .v 2), (3, .v 3)])
 (.seq
 (.reg false [p (.bin .eql (.v 8) (.k (.int .i64 2))),
 p (.mov (.r 0))] [(1, .v 1), (2, .v 2), (3, .v 3), (8, .v 8), (14, .r 0)])
 (.cond (.v 14)
 (.reg true [p (.fad 1 (.v 1)),
 p (.load (none) (.r 0)),
 p (.fad 2 (.v 1)),
 p (.load (none) (.r 0)),
 p (.fad 1 (.v 3)),
 ⟨.store (none) (.r 0) (.r 3), none, [1]⟩,
 p (.fad 2 (.v 3)),
 p (.store (none) (.r 0) (.r 3))] [(2, .v 2), (3, .v 3)])
 (.seq
 (.seq
 (.reg false [p (.bin .eql (.v 8) (.k (.int .i64 4))),
 p (.mov (.r 0))] [(1, .v 1), (2, .v 2), (3, .v 3), (8, .v 8), (22, .r 0)])
 (.cond (.v 22)
 .skip
 (.reg false [p (.bin .eql (.v 8) (.k (.int .i64 6))),
 p (.mov (.r 0))] [(1, .v 1), (2, .v 2), (3, .v 3), (8, .v 8), (22, .r 0)])))
 (.cond (.v 22)
 (.reg false [p (.fad 3 (.v 1)),
 p (.load (none) (.r 0)),
 p (.fad 3 (.v 3)),
 p (.store (none) (.r 0) (.r 1))] [(2, .v 2), (3, .v 3)])
 (.seq
 (.reg false [p (.bin .eql (.v 8) (.k (.int .i64 5))),
 p (.mov (.r 0))] [(1, .v 1), (2, .v 2), (3, .v 3), (8, .v 8), (28, .r 0)])
 (.cond (.v 28)
 (.reg true [p (.fad 3 (.v 1)),
 p (.load (none) (.r 0)),
 p (.fad 5 (.v 1)),
 p (.load (none) (.r 0)),
 p (.fad 3 (.v 3)),
 ⟨.store (none) (.r 0) (.r 3), none, [1]⟩,
 p (.fad 5 (.v 3)),
 p (.store (none) (.r 0) (.r 3))] [(2, .v 2), (3, .v 3)])
 (.seq
 (.seq
 (.reg false [p (.bin .eql (.v 8) (.k (.int .i64 7))),
 p (.mov (.r 0))] [(1, .v 1), (2, .v 2), (3, .v 3), (8, .v 8), (36, .r 0)])
 (.cond (.v 36)
 .skip
 (.reg false [p (.bin .eql (.v 8) (.k (.int .i64 9))),
 p (.mov (.r 0))] [(1, .v 1), (2, .v 2), (3, .v 3), (8, .v 8), (36, .r 0)])))
 (.cond (.v 36)
 (.reg false [p (.fad 1 (.v 1)),
 p (.load (none) (.r 0)),
 p (.fad 1 (.v 3)),
 p (.store (none) (.r 0) (.r 1))] [(2, .v 2), (3, .v 3)])
 (.seq
 (.reg false [p (.bin .eql (.v 8) (.k (.int .i64 8))),
 p (.mov (.r 0))] [(1, .v 1), (2, .v 2), (3, .v 3), (42, .r 0)])
 (.cond (.v 42)
 (.reg false [p (.fad 4 (.v 1)),
 p (.load (none) (.r 0)),
 p (.fad 4 (.v 3)),
 p (.store (none) (.r 0) (.r 1))] [(2, .v 2), (3, .v 3)])
 .skip))))))))))))))
 (.seq
 (.reg false [p (.load (some 8) (.v 3)),
 p (.store (some 8) (.v 2) (.r 0))] [(2, .v 2)])
 .ret))))
def r50 : List RV := [.c 2 (some 8)]
theorem chk50 : Chk Try.prog Try.f50 c50 r50 := ⟨_, rfl, by kernel_rfl, by kernel_rfl⟩
theorem en50 : EnP Try.prog 50 48 c50 r50 := mkEnP (by kernel_rfl) Try.func50 (by kernel_rfl) chk50

/-- `penelope/frame.clean` -/
def c21 : C :=
  (.seq
 (.reg false [p (.box 8 (.v 0)),
 p (.mov (.k (.bool false)))] [(1, .r 1)])
 (.seq
 (.reg false [p (.load (some 8) (.v 1)),
 p (.call true (.k (.fn 50 [] [])) [.r 0]),
 p (.alloc 8 (.agg [.int .i64 0, .str [], .str [], .int .i64 0, .int .i64 0, .str [], .str [], .fsl .nil 4 []])),
 p (.store (some 8) (.r 0) (.r 1))] [(1, .v 1), (3, .r 1)])
 (.seq
 (.reg false [p (.fad 1 (.v 3)),
 p (.load (none) (.r 0)),
 p (.fad 1 (.v 1)),
 p (.load (none) (.r 0)),
 p (.bin .eql (.r 2) (.r 0)),
 p (.mov (.r 0)),
 ⟨.fad 2 (.v 3), some (0, true), []⟩,
 ⟨.load (none) (.r 0), some (1, true), []⟩,
 ⟨.fad 2 (.v 1), some (2, true), []⟩,
 ⟨.load (none) (.r 0), some (3, true), []⟩,
 ⟨.bin .eql (.r 2) (.r 0), some (4, true), []⟩,
 p (.pick (.r 5) (.r 0) (.k (.bool false))),
 p (.mov (.r 0)),
 ⟨.fad 3 (.v 3), some (0, true), []⟩,
 ⟨.load (none) (.r 0), some (1, true), []⟩,
 ⟨.fad 3 (.v 1), some (2, true), []⟩,
 ⟨.load (none) (.r 0), some (3, true), []⟩,
 ⟨.bin .eql (.r 2) (.r 0), some (4, true), []⟩,
 p (.pick (.r 5) (.r 0) (.k (.bool false))),
 p (.mov (.r 0)),
 ⟨.fad 4 (.v 3), some (0, true), []⟩,
 ⟨.load (none) (.r 0), some (1, true), []⟩,
 ⟨.fad 4 (.v 1), some (2, true), []⟩,
 ⟨.load (none) (.r 0), some (3, true), []⟩,
 ⟨.bin .eql (.r 2) (.r 0), some (4, true), []⟩,
 p (.pick (.r 5) (.r 0) (.k (.bool false))),
 p (.mov (.r 0)),
 ⟨.fad 5 (.v 3), some (0, true), []⟩,
 ⟨.load (none) (.r 0), some (1, true), []⟩,
 ⟨.fad 5 (.v 1), some (2, true), []⟩,
 ⟨.load (none) (.r 0), some (3, true), []⟩,
 ⟨.bin .eql (.r 2) (.r 0), some (4, true), []⟩,
 p (.pick (.r 5) (.r 0) (.k (.bool false))),
 p (.mov (.r 0)),
 ⟨.fad 6 (.v 3), some (0, true), []⟩,
 ⟨.fad 0 (.r 0), some (1, true), []⟩,
 ⟨.load (none) (.r 0), some (2, true), []⟩,
 ⟨.fad 6 (.v 1), some (3, true), []⟩,
 ⟨.fad 0 (.r 0), some (4, true), []⟩,
 ⟨.load (none) (.r 0), some (5, true), []⟩,
 ⟨.bin .eql (.r 3) (.r 0), some (6, true), []⟩,
 p (.pick (.r 7) (.r 0) (.k (.bool false))),
 p (.mov (.r 0)),
 ⟨.fad 6 (.v 3), some (0, true), []⟩,
 ⟨.fad 1 (.r 0), some (1, true), []⟩,
 ⟨.load (none) (.r 0), some (2, true), []⟩,
 ⟨.len false (.r 0), some (3, true), []⟩,
 ⟨.fad 6 (.v 1), some (4, true), []⟩,
 ⟨.fad 1 (.r 0), some (5, true), []⟩,
 ⟨.load (none) (.r 0), some (6, true), []⟩,
 ⟨.len false (.r 0), some (7, true), []⟩,
 ⟨.bin .eql (.r 4) (.r 0), some (8, true), []⟩,
 p (.pick (.r 9) (.r 0) (.k (.bool false))),
 p (.mov (.r 0))] [(2, .r 0)])
 .ret)))
def r21 : List RV := [.t 2]
theorem chk21 : Chk Try.prog Try.f21 c21 r21 := ⟨_, rfl, by kernel_rfl, by kernel_rfl⟩
theorem en21 : EnP Try.prog 21 59 c21 r21 := mkEnP (by kernel_rfl) Try.func21 (by kernel_rfl) chk21

/-- `penelope/frame.Put` -/
def c8 : C :=
  (.seq
 (.reg false [p (.box 8 (.v 0)),
 p (.mov (.k (.str []))),
 p (.mov (.k (.int .i64 0)))] [(1, .r 2)])
 (.seq
 (.seq
 (.reg false [p (.fad 0 (.v 1)),
 p (.load (none) (.r 0)),
 p (.bin .lss (.r 0) (.k (.int .i64 1))),
 p (.mov (.r 0)),
 ⟨.fad 0 (.v 1), some (0, false), []⟩,
 ⟨.load (none) (.r 0), some (1, false), []⟩,
 ⟨.bin .gtr (.r 0) (.k (.int .i64 10)), some (2, false), []⟩,
 p (.pick (.r 3) (.k (.bool true)) (.r 0)),
 p (.mov (.r 0)),
 ⟨.load (some 8) (.v 1), some (0, false), []⟩,
 ⟨.call true (.k (.fn 21 [] [])) [.r 0], some (1, false), []⟩,
 ⟨.un .not (.r 0), some (2, false), []⟩,
 p (.pick (.r 3) (.k (.bool true)) (.r 0))] [(1, .v 1), (19, .r 0)])
 (.cond (.v 19)
 (.seq
 (.reg false [p (.mov (.k (.str []))),
 p (.mov (.k (.int .i64 1)))] [(2, .r 1), (3, .r 0)])
 .ret)
 .skip))
 (.seq
 (.reg false [p (.build [.str [], .bool false] []),
 p (.box 2 (.r 0)),
 p (.mov (.r 0))] [(1, .v 1), (4, .r 0)])
 (.seq
 (.reg false [p (.mov (.v 4)),
 p (.fad 0 (.v 1)),
 p (.load (none) (.r 0)),
 p (.call false (.k (.fn 22 [] [])) [.r 2, .r 0, .k (.int .i64 1)])] [(1, .v 1), (4, .v 4)])
 (.seq
 (.seq
 (.reg false [p (.fad 0 (.v 1)),
 p (.load (none) (.r 0))] [(1, .v 1), (4, .v 4), (27, .r 0)])
 (.block 0
 (.seq
 (.reg false [p (.bin .eql (.v 27) (.k (.int .i64 1))),
 p (.mov (.r 0))] [(1, .v 1), (4, .v 4), (27, .v 27), (28, .r 0)])
 (.cond (.v 28)
 (.seq
 (.reg false [p (.fad 6 (.v 1)),
 p (.load (some 2) (.r 0)),
 p (.call true (.k (.fn 23 [] [])) [.r 0]),
 p (.mov (.r 0)),
 p (.ext (.r 0) 0),
 p (.ext (.r 1) 1),
 p (.mov (.r 1)),
 p (.mov (.r 1))] [(4, .v 4), (5, .r 1), (6, .r 0)])
 (.reg true [p (.mov (.v 4)),
 p (.mov (.v 4)),
 p (.mov (.v 4)),
 p (.nck (.r 0)),
 p (.fad 0 (.r 0)),
 p (.load (none) (.r 0)),
 p (.mov (.v 5)),
 p (.bsl 1 [.r 1, .r 0]),
 p (.call true (.k (.fn 24 [] [])) [.r 0]),
 p (.mov (.v 4)),
 p (.nck (.r 0)),
 p (.fad 1 (.r 0)),
 p (.load (none) (.r 0)),
 p (.mov (.r 0)),
 ⟨.mov (.v 6), some (0, false), []⟩,
 ⟨.bin .neq (.r 0) (.k (.int .i64 0)), some (1, false), []⟩,
 p (.pick (.r 2) (.k (.bool true)) (.r 0)),
 p (.nck (.r 16)),
 p (.fad 0 (.r 0)),
 p (.store (none) (.r 0) (.r 10)),
 p (.nck (.r 18)),
 p (.fad 1 (.r 0)),
 p (.store (none) (.r 0) (.r 5))] [(4, .v 4)]))
 (.seq
 (.reg false [p (.bin .eql (.v 27) (.k (.int .i64 2))),
 p (.mov (.r 0))] [(1, .v 1), (4, .v 4), (27, .v 27), (57, .r 0)])
 (.cond (.v 57)
 (.seq
 (.reg false [p (.mov (.v 4)),
 p (.fad 1 (.v 1)),
 p (.load (none) (.r 0)),
 p (.call false (.k (.fn 25 [] [])) [.r 2, .r 0])] [(1, .v 1), (4, .v 4)])
 (.reg false [p (.mov (.v 4)),
 p (.fad 2 (.v 1)),
 p (.load (none) (.r 0)),
 p (.call false (.k (.fn 25 [] [])) [.r 2, .r 0])] [(4, .v 4)]))
 (.seq
 (.seq
 (.reg false [p (.bin .eql (.v 27) (.k (.int .i64 4))),
 p (.mov (.r 0))] [(1, .v 1), (4, .v 4), (27, .v 27), (67, .r 0)])
 (.cond (.v 67)
 .skip
 (.reg false [p (.bin .eql (.v 27) (.k (.int .i64 6))),
 p (.mov (.r 0))] [(1, .v 1), (4, .v 4), (27, .v 27), (67, .r 0)])))
 (.cond (.v 67)
 (.reg false [p (.mov (.v 4)),
 p (.fad 3 (.v 1)),
 p (.load (none) (.r 0)),
 p (.call false (.k (.fn 22 [] [])) [.r 2, .r 0, .k (.int .i64 6)])] [(4, .v 4)])
 (.seq
 (.reg false [p (.bin .eql (.v 27) (.k (.int .i64 5))),
 p (.mov (.r 0))] [(1, .v 1), (4, .v 4), (27, .v 27), (74, .r 0)])
 (.cond (.v 74)
 (.seq
 (.reg false [p (.mov (.v 4)),
 p (.fad 3 (.v 1)),
 p (.load (none) (.r 0)),
 p (.call false (.k (.fn 22 [] [])) [.r 2, .r 0, .k (.int .i64 6)])] [(1, .v 1), (4, .v 4)])
 (.reg false [p (.mov (.v 4)),
 p (.fad 5 (.v 1)),
 p (.load (none) (.r 0)),
 p (.call false (.k (.fn 25 [] [])) [.r 2, .r 0])] [(4, .v 4)]))
 (.seq
 (.seq
 (.reg false [p (.bin .eql (.v 27) (.k (.int .i64 7))),
 p (.mov (.r 0))] [(1, .v 1), (4, .v 4), (27, .v 27), (84, .r 0)])
 (.cond (.v 84)
 .skip
 (.reg false [p (.bin .eql (.v 27) (.k (.int .i64 9))),
 p (.mov (.r 0))] [(1, .v 1), (4, .v 4), (27, .v 27), (84, .r 0)])))
 (.cond (.v 84)
 (.reg false [p (.mov (.v 4)),
 p (.fad 1 (.v 1)),
 p (.load (none) (.r 0)),
 p (.call false (.k (.fn 25 [] [])) [.r 2, .r 0])] [(4, .v 4)])
 (.seq
 (.reg false [p (.bin .eql (.v 27) (.k (.int .i64 8))),
 p (.mov (.r 0))] [(1, .v 1), (4, .v 4), (91, .r 0)])
 (.cond (.v 91)
 (.reg false [p (.mov (.v 4)),
 p (.fad 4 (.v 1)),
 p (.load (none) (.r 0)),
 p (.call false (.k (.fn 22 [] [])) [.r 2, .r 0, .k (.int .i64 6)])] [(4, .v 4)])
 .skip))))))))))))))
 (.seq
 (.reg false [p (.mov (.v 4)),
 p (.call false (.k (.fn 26 [] [])) [.r 0]),
 p (.ext (.r 0) 0),
 p (.ext (.r 1) 1),
 p (.mov (.r 1)),
 p (.mov (.r 1))] [(2, .r 1), (3, .r 0)])
 .ret))))))
def r8 : List RV := [.t 2, .t 3]
theorem chk8 : Chk Try.prog Try.f8 c8 r8 := ⟨_, rfl, by kernel_rfl, by kernel_rfl⟩
theorem en8 : EnP Try.prog 8 101 c8 r8 := mkEnP (by kernel_rfl) Try.func8 (by kernel_rfl) chk8

/-- `penelope/penelopelaw23.alive` -/
def c12 : C :=
  (.seq
 (.reg false [p (.mov (.k (.bool false)))] [])
 (.seq
 (.reg false [p (.build [.int .i64 0, .str [], .str [], .int .i64 0, .int .i64 0, .str [], .str [], .fsl .nil 4 []] [(0, 1, .k (.int .i64 3))]),
 p (.call true (.k (.fn 8 [] [])) [.r 0]),
 p (.mov (.r 0)),
 p (.ext (.r 0) 0),
 p (.ext (.r 1) 1),
 p (.mov (.r 1)),
 p (.mov (.r 1))] [(1, .r 1), (2, .r 0)])
 (.seq
 (.reg false [p (.mov (.v 2)),
 p (.bin .eql (.r 0) (.k (.int .i64 0))),
 p (.mov (.r 0)),
 ⟨.mov (.v 1), some (0, true), []⟩,
 ⟨.len true (.r 0), some (1, true), []⟩,
 ⟨.bin .eql (.r 0) (.k (.int .i64 5)), some (2, true), []⟩,
 p (.pick (.r 3) (.r 0) (.k (.bool false))),
 p (.mov (.r 0))] [(0, .r 0)])
 .ret)))
def r12 : List RV := [.t 0]
theorem chk12 : Chk Try.prog Try.f12 c12 r12 := ⟨_, rfl, by kernel_rfl, by kernel_rfl⟩
theorem en12 : EnP Try.prog 12 15 c12 r12 := mkEnP (by kernel_rfl) Try.func12 (by kernel_rfl) chk12

/-- `penelope/penelopelaw23.FrameAnswers` -/
def c5 : C :=
  (.seq
 (.reg false [p (.box 6 (.v 0)),
 p (.mov (.k (.bool false)))] [(1, .v 1), (2, .r 1)])
 (.seq
 (.reg true [p (.load (some 6) (.v 2)),
 p (.call true (.k (.fn 15 [] [])) [.r 0]),
 p (.mov (.v 1)),
 p (.mov (.v 1)),
 p (.len true (.r 0)),
 p (.mnx false (.r 0) [.k (.int .i64 3000)]),
 p (.sls (.r 3) none (some (.r 0))),
 p (.store (some 6) (.v 2) (.r 5)),
 p (.mov (.r 1))] [(1, .r 0), (2, .v 2)])
 (.seq
 (.reg false [p (.load (some 6) (.v 2)),
 p (.call true (.k (.fn 16 [] [])) [.r 0]),
 p (.mov (.r 0)),
 p (.ext (.r 0) 0),
 p (.ext (.r 1) 1),
 p (.mov (.r 1)),
 p (.mov (.r 1))] [(1, .v 1), (2, .v 2), (5, .r 1), (6, .r 0)])
 (.seq
 (.reg false [p (.load (some 6) (.v 2)),
 p (.call true (.k (.fn 17 [] [])) [.r 0]),
 p (.mov (.r 0)),
 p (.ext (.r 0) 0),
 p (.ext (.r 1) 1),
 p (.mov (.r 1)),
 p (.mov (.r 1))] [(1, .v 1), (5, .v 5), (6, .v 6), (7, .r 1), (8, .r 0)])
 (.seq
 (.reg false [p (.mov (.v 1)),
 p (.call true (.k (.fn 18 [] [])) [.r 0]),
 p (.mov (.r 0)),
 p (.ext (.r 0) 0),
 p (.ext (.r 1) 1),
 p (.alloc 6 (.agg [.int .i64 0, .str [], .int .i64 0, .int .i64 0, .int .i64 0, .fsl .nil 5 []])),
 p (.store (some 6) (.r 0) (.r 2)),
 p (.mov (.r 2))] [(1, .v 1), (5, .v 5), (6, .v 6), (7, .v 7), (8, .v 8), (9, .r 2), (10, .r 0)])
 (.seq
 (.reg false [p (.mov (.v 1)),
 p (.call true (.k (.fn 19 [] [])) [.r 0]),
 p (.mov (.r 0)),
 p (.ext (.r 0) 0),
 p (.ext (.r 1) 1),
 p (.alloc 6 (.agg [.int .i64 0, .str [], .int .i64 0, .int .i64 0, .int .i64 0, .fsl .nil 5 []])),
 p (.store (some 6) (.r 0) (.r 2)),
 p (.mov (.r 2))] [(5, .v 5), (6, .v 6), (7, .v 7), (8, .v 8), (9, .v 9), (10, .v 10), (11, .r 2), (12, .r 0)])
 (.seq
 (.reg false [p (.call true (.k (.fn 12 [] [])) []),
 p (.mov (.r 0)),
 ⟨.mov (.v 5), some (0, true), []⟩,
 ⟨.mov (.v 7), some (1, true), []⟩,
 ⟨.bin .eql (.r 1) (.r 0), some (2, true), []⟩,
 p (.pick (.r 3) (.r 0) (.k (.bool false))),
 p (.mov (.r 0)),
 ⟨.mov (.v 6), some (0, true), []⟩,
 ⟨.mov (.v 8), some (1, true), []⟩,
 ⟨.bin .eql (.r 1) (.r 0), some (2, true), []⟩,
 p (.pick (.r 3) (.r 0) (.k (.bool false))),
 p (.mov (.r 0)),
 ⟨.load (some 6) (.v 9), some (0, true), []⟩,
 ⟨.load (some 6) (.v 11), some (1, true), []⟩,
 ⟨.call true (.k (.fn 20 [] [])) [.r 1, .r 0], some (2, true), []⟩,
 p (.pick (.r 3) (.r 0) (.k (.bool false))),
 p (.mov (.r 0)),
 ⟨.mov (.v 10), some (0, true), []⟩,
 ⟨.mov (.v 12), some (1, true), []⟩,
 ⟨.bin .eql (.r 1) (.r 0), some (2, true), []⟩,
 p (.pick (.r 3) (.r 0) (.k (.bool false))),
 p (.mov (.r 0))] [(4, .r 0)])
 .ret)))))))
def r5 : List RV := [.t 4]
theorem chk5 : Chk Try.prog Try.f5 c5 r5 := ⟨_, rfl, by kernel_rfl, by kernel_rfl⟩
theorem en5 : EnP Try.prog 5 61 c5 r5 := mkEnP (by kernel_rfl) Try.func5 (by kernel_rfl) chk5


end Go.Proofs.Ytjlpmndipceboaa.Ev
end
section
set_option linter.unusedSimpArgs false
namespace Go.Proofs.Ytjlpmndipceboaa.Ev
open Go
/-- `penelope/dag.Put$1` -/
def c54 : C :=
  (.seq
 (.reg false [p (.mov (.v 0)),
 p (.mov (.v 1)),
 p (.call true (.k (.fn 51 [] [])) [.r 1, .r 0]),
 p (.mov (.r 0)),
 p (.ext (.r 0) 0),
 p (.ext (.r 1) 1),
 p (.mov (.r 1)),
 p (.mov (.r 1))] [(2, .v 2), (5, .r 1)])
 (.reg false [p (.load (none) (.v 2)),
 p (.mov (.v 5)),
 p (.bsl 1 [.r 1, .r 0]),
 p (.call true (.k (.fn 24 [] [])) [.r 0]),
 p (.store (none) (.v 2) (.r 0))] []))
def r54 : List RV := []
theorem chk54 : Chk Try.prog Try.f54 c54 r54 := ⟨_, rfl, by kernel_rfl, by kernel_rfl⟩
theorem ena54 : EnA Try.prog 54 17 c54 r54 := mkEnA (by kernel_rfl) Try.func54 (by kernel_rfl) chk54
theorem en54 : EnP Try.prog 54 17 c54 r54 := mkEnP (by kernel_rfl) Try.func54 (by kernel_rfl) chk54

/-- `penelope/dag.Put` -/
def c23 : C :=
  (.seq
 (.reg false [p (.box 2 (.v 0)),
 p (.mov (.k (.str []))),
 p (.mov (.k (.int .i64 0)))] [(1, .r 2)])
 (.seq
 (.seq
 (.reg false [p (.load (some 2) (.v 1)),
 p (.call true (.k (.fn 52 [] [])) [.r 0]),
 p (.mov (.r 0))] [(1, .v 1), (4, .r 0)])
 (.seq
 (.reg false [p (.mov (.v 4)),
 p (.bin .neq (.r 0) (.k (.int .i64 0)))] [(1, .v 1), (4, .v 4), (15, .r 0)])
 (.cond (.v 15)
 (.seq
 (.reg false [p (.mov (.v 4)),
 p (.mov (.k (.str []))),
 p (.mov (.r 1))] [(2, .r 1), (3, .r 0)])
 .ret)
 .skip)))
 (.seq
 (.reg false [p (.fad 0 (.v 1)),
 p (.load (none) (.r 0)),
 p (.call true (.k (.fn 53 [] [])) [.r 0]),
 p (.mov (.r 0)),
 p (.ext (.r 0) 0),
 p (.ext (.r 1) 1),
 p (.alloc 1 (.str [])),
 p (.store (none) (.r 0) (.r 2)),
 p (.mov (.r 2))] [(1, .v 1), (5, .r 2)])
 (.seq
 (.reg false [p (.mkf 54 [] [.v 5]),
 p (.mov (.r 0))] [(1, .v 1), (5, .v 5), (7, .r 0)])
 (.seq
 (.reg false [p (.mov (.v 7)),
 p (.fad 1 (.v 1)),
 p (.load (none) (.r 0)),
 p (.len false (.r 0)),
 p (.call false (.r 3) [.r 0, .k (.int .i64 1)])] [(1, .v 1), (5, .v 5), (7, .v 7)])
 (.seq
 (.seq
 (.reg false [p (.fad 1 (.v 1)),
 p (.load (none) (.r 0)),
 p (.len false (.r 0)),
 p (.mov (.k (.int .i64 0)))] [(5, .v 5), (7, .v 7), (30, .r 2), (31, .r 1), (32, .r 0)])
 (.block 0
 (.loop
 (.seq
 (.reg false [p (.bin .lss (.v 32) (.v 31))] [(5, .v 5), (7, .v 7), (30, .v 30), (31, .v 31), (32, .v 32), (33, .r 0)])
 (.seq
 (.cond (.v 33)
 .skip
 (.exit 0))
 (.seq
 (.block 1
 (.seq
 (.reg false [p (.iad 4 (.v 30) (.v 32)),
 p (.load (some 4) (.r 0)),
 p (.alloc 4 (.agg [.fsl .nil 1 [], .int .i64 0, .int .i64 0, .int .i64 0])),
 p (.store (some 4) (.r 0) (.r 1))] [(5, .v 5), (7, .v 7), (9, .r 1), (30, .v 30), (31, .v 31), (32, .v 32)])
 (.seq
 (.reg false [p (.mov (.v 7)),
 p (.fad 0 (.v 9)),
 p (.load (none) (.r 0)),
 p (.len false (.r 0)),
 p (.call false (.r 3) [.r 0, .k (.int .i64 1)])] [(5, .v 5), (7, .v 7), (9, .v 9), (30, .v 30), (31, .v 31), (32, .v 32)])
 (.seq
 (.seq
 (.reg false [p (.fad 0 (.v 9)),
 p (.load (none) (.r 0)),
 p (.len false (.r 0)),
 p (.mov (.k (.int .i64 0)))] [(5, .v 5), (7, .v 7), (9, .v 9), (30, .v 30), (31, .v 31), (32, .v 32), (42, .r 2), (43, .r 1), (44, .r 0)])
 (.block 2
 (.loop
 (.seq
 (.reg false [p (.bin .lss (.v 44) (.v 43))] [(5, .v 5), (7, .v 7), (9, .v 9), (30, .v 30), (31, .v 31), (32, .v 32), (42, .v 42), (43, .v 43), (44, .v 44), (45, .r 0)])
 (.seq
 (.cond (.v 45)
 .skip
 (.exit 2))
 (.seq
 (.block 3
 (.seq
 (.reg false [p (.iad 1 (.v 42) (.v 44)),
 p (.load (none) (.r 0)),
 p (.mov (.r 0))] [(5, .v 5), (7, .v 7), (9, .v 9), (11, .r 0), (30, .v 30), (31, .v 31), (32, .v 32), (42, .v 42), (43, .v 43), (44, .v 44)])
 (.reg false [p (.mov (.v 7)),
 p (.mov (.v 11)),
 p (.call false (.r 1) [.r 0, .k (.int .i64 1)])] [(5, .v 5), (7, .v 7), (9, .v 9), (30, .v 30), (31, .v 31), (32, .v 32), (42, .v 42), (43, .v 43), (44, .v 44)])))
 (.reg false [p (.bin .add (.v 44) (.k (.int .i64 1))),
 p (.mov (.r 0))] [(5, .v 5), (7, .v 7), (9, .v 9), (30, .v 30), (31, .v 31), (32, .v 32), (42, .v 42), (43, .v 43), (44, .r 0)])))))))
 (.frz
 (.seq
 (.reg false [p (.mov (.v 7)),
 p (.fad 1 (.v 9)),
 p (.load (none) (.r 0)),
 p (.call false (.r 2) [.r 0, .k (.int .i64 1)])] [(5, .v 5), (7, .v 7), (9, .v 9), (30, .v 30), (31, .v 31), (32, .v 32)])
 (.seq
 (.reg false [p (.mov (.v 7)),
 p (.fad 2 (.v 9)),
 p (.load (none) (.r 0)),
 p (.call false (.r 2) [.r 0, .k (.int .i64 3)])] [(5, .v 5), (7, .v 7), (9, .v 9), (30, .v 30), (31, .v 31), (32, .v 32)])
 (.reg false [p (.mov (.v 7)),
 p (.fad 3 (.v 9)),
 p (.load (none) (.r 0)),
 p (.call false (.r 2) [.r 0, .k (.int .i64 3)])] [(5, .v 5), (7, .v 7), (30, .v 30), (31, .v 31), (32, .v 32)]))))))))
 (.frz
 (.reg false [p (.bin .add (.v 32) (.k (.int .i64 1))),
 p (.mov (.r 0))] [(5, .v 5), (7, .v 7), (30, .v 30), (31, .v 31), (32, .r 0)]))))))))
 (.frz
 (.seq
 (.reg false [p (.load (none) (.v 5)),
 p (.mov (.r 0)),
 p (.mov (.k (.int .i64 0)))] [(2, .r 1), (3, .r 0)])
 .ret))))))))
def r23 : List RV := [.t 2, .t 3]
theorem chk23 : Chk Try.prog Try.f23 c23 r23 := ⟨_, rfl, by kernel_rfl, by kernel_rfl⟩
theorem en23 : EnP Try.prog 23 66 c23 r23 := mkEnP (by kernel_rfl) Try.func23 (by kernel_rfl) chk23

/-- `penelope/dag.Get$1` -/
def c66 : C :=
  (.seq
 (.reg false [p (.mov (.k (.int .i64 0)))] [(0, .v 0), (1, .v 1), (2, .v 2), (3, .v 3)])
 (.seq
 (.seq
 (.reg false [p (.load (none) (.v 1)),
 p (.bin .neq (.r 0) (.k (.int .i64 0)))] [(0, .v 0), (1, .v 1), (2, .v 2), (3, .v 3), (8, .r 0)])
 (.cond (.v 8)
 (.seq
 (.reg false [p (.mov (.k (.int .i64 0)))] [(5, .r 0)])
 .ret)
 .skip))
 (.seq
 (.reg false [p (.mov (.k (.int .i64 0)))] [(0, .v 0), (1, .v 1), (2, .v 2), (3, .v 3)])
 (.seq
 (.reg false [p (.load (none) (.v 2)),
 p (.load (none) (.v 3)),
 p (.mov (.v 0)),
 p (.call true (.k (.fn 64 [] [])) [.r 2, .r 1, .r 0]),
 p (.mov (.r 0)),
 p (.ext (.r 0) 0),
 p (.ext (.r 1) 1),
 p (.ext (.r 2) 2),
 p (.mov (.r 2)),
 p (.store (none) (.v 3) (.r 2)),
 p (.store (none) (.v 1) (.r 2))] [(6, .r 2)])
 (.seq
 (.reg false [p (.mov (.v 6)),
 p (.mov (.r 0))] [(5, .r 0)])
 .ret)))))
def r66 : List RV := [.t 5]
theorem chk66 : Chk Try.prog Try.f66 c66 r66 := ⟨_, rfl, by kernel_rfl, by kernel_rfl⟩
theorem ena66 : EnA Try.prog 66 18 c66 r66 := mkEnA (by kernel_rfl) Try.func66 (by kernel_rfl) chk66
theorem en66 : EnP Try.prog 66 18 c66 r66 := mkEnP (by kernel_rfl) Try.func66 (by kernel_rfl) chk66

/-- `penelope/dag.Get` -/
def c37 : C :=
  (.seq
 (.reg false [p (.box 1 (.v 0)),
 p (.alloc 2 (.agg [.str [], .fsl .nil 4 []])),
 p (.mov (.k (.int .i64 0)))] [(1, .r 2), (2, .r 1)])
 (.seq
 (.reg false [p (.load (none) (.v 1)),
 p (.call true (.k (.fn 65 [] [])) [.r 0, .k (.int .i64 0)]),
 p (.mov (.r 0)),
 p (.ext (.r 0) 0),
 p (.ext (.r 1) 1),
 p (.ext (.r 2) 2),
 p (.alloc 1 (.int .i64 0)),
 p (.alloc 1 (.int .i64 0)),
 p (.mov (.r 4)),
 p (.store (none) (.r 2) (.r 4)),
 p (.store (none) (.r 2) (.r 4))] [(1, .v 1), (2, .v 2), (4, .r 2), (5, .r 4), (6, .r 3)])
 (.seq
 (.reg false [p (.mkf 66 [] [.v 6, .v 1, .v 5]),
 p (.mov (.r 0))] [(1, .v 1), (2, .v 2), (4, .v 4), (5, .v 5), (6, .v 6), (7, .r 0)])
 (.seq
 (.reg false [p (.mov (.v 4)),
 p (.build [.str [], .fsl .nil 4 []] [(0, 1, .r 0)]),
 p (.alloc 2 (.agg [.str [], .fsl .nil 4 []])),
 p (.store (some 2) (.r 0) (.r 1))] [(1, .v 1), (2, .v 2), (5, .v 5), (6, .v 6), (7, .v 7), (8, .r 1)])
 (.seq
 (.seq
 (.reg false [p (.mov (.v 7)),
 p (.call false (.r 0) [.k (.int .i64 1)]),
 p (.mov (.r 0))] [(1, .v 1), (2, .v 2), (5, .v 5), (6, .v 6), (7, .v 7), (8, .v 8), (9, .r 0)])
 (.block 0
 (.loop
 (.seq
 (.seq
 (.reg false [p (.mov (.v 9)),
 p (.bin .gtr (.r 0) (.k (.int .i64 0))),
 p (.mov (.r 0)),
 ⟨.load (none) (.v 6), some (0, true), []⟩,
 ⟨.bin .eql (.r 0) (.k (.int .i64 0)), some (1, true), []⟩,
 p (.pick (.r 2) (.r 0) (.k (.bool false)))] [(1, .v 1), (2, .v 2), (5, .v 5), (6, .v 6), (7, .v 7), (8, .v 8), (9, .v 9), (29, .r 0)])
 (.cond (.v 29)
 .skip
 (.exit 0)))
 (.seq
 (.block 1
 (.seq
 (.reg false [p (.alloc 4 (.agg [.fsl .nil 1 [], .int .i64 0, .int .i64 0, .int .i64 0]))] [(1, .v 1), (2, .v 2), (5, .v 5), (6, .v 6), (7, .v 7), (8, .v 8), (9, .v 9), (10, .r 0)])
 (.seq
 (.seq
 (.reg false [p (.mov (.v 7)),
 p (.call false (.r 0) [.k (.int .i64 1)]),
 p (.mov (.r 0))] [(1, .v 1), (2, .v 2), (5, .v 5), (6, .v 6), (7, .v 7), (8, .v 8), (9, .v 9), (10, .v 10), (11, .r 0)])
 (.block 2
 (.loop
 (.seq
 (.seq
 (.reg false [p (.mov (.v 11)),
 p (.bin .gtr (.r 0) (.k (.int .i64 0))),
 p (.mov (.r 0)),
 ⟨.load (none) (.v 6), some (0, true), []⟩,
 ⟨.bin .eql (.r 0) (.k (.int .i64 0)), some (1, true), []⟩,
 p (.pick (.r 2) (.r 0) (.k (.bool false)))] [(1, .v 1), (2, .v 2), (5, .v 5), (6, .v 6), (7, .v 7), (8, .v 8), (9, .v 9), (10, .v 10), (11, .v 11), (39, .r 0)])
 (.cond (.v 39)
 .skip
 (.exit 2)))
 (.seq
 (.block 3
 (.reg true [p (.fad 0 (.v 10)),
 p (.load (none) (.r 0)),
 p (.mov (.v 7)),
 ⟨.call false (.r 0) [.k (.int .i64 1)], none, [1]⟩,
 p (.bsl 1 [.r 0]),
 p (.app 1 8 (.r 3) (.r 0)),
 p (.fad 0 (.v 10)),
 p (.store (none) (.r 0) (.r 1))] [(1, .v 1), (2, .v 2), (5, .v 5), (6, .v 6), (7, .v 7), (8, .v 8), (9, .v 9), (10, .v 10), (11, .v 11)]))
 (.reg false [p (.mov (.v 11)),
 p (.bin .sub (.r 0) (.k (.int .i64 1))),
 p (.mov (.r 0))] [(1, .v 1), (2, .v 2), (5, .v 5), (6, .v 6), (7, .v 7), (8, .v 8), (9, .v 9), (10, .v 10), (11, .r 0)]))))))
 (.frz
 (.seq
 (.reg false [p (.mov (.v 7)),
 p (.call false (.r 0) [.k (.int .i64 1)]),
 p (.fad 1 (.v 10)),
 p (.store (none) (.r 0) (.r 1))] [(1, .v 1), (2, .v 2), (5, .v 5), (6, .v 6), (7, .v 7), (8, .v 8), (9, .v 9), (10, .v 10)])
 (.seq
 (.reg false [p (.mov (.v 7)),
 p (.call false (.r 0) [.k (.int .i64 3)]),
 p (.fad 2 (.v 10)),
 p (.store (none) (.r 0) (.r 1))] [(1, .v 1), (2, .v 2), (5, .v 5), (6, .v 6), (7, .v 7), (8, .v 8), (9, .v 9), (10, .v 10)])
 (.seq
 (.reg false [p (.mov (.v 7)),
 p (.call false (.r 0) [.k (.int .i64 3)]),
 p (.fad 3 (.v 10)),
 p (.store (none) (.r 0) (.r 1))] [(1, .v 1), (2, .v 2), (5, .v 5), (6, .v 6), (7, .v 7), (8, .v 8), (9, .v 9), (10, .v 10)])
 (.reg false [p (.fad 1 (.v 8)),
 p (.load (none) (.r 0)),
 p (.load (some 4) (.v 10)),
 p (.bsl 4 [.r 0]),
 p (.app 4 48 (.r 2) (.r 0)),
 p (.fad 1 (.v 8)),
 p (.store (none) (.r 0) (.r 1))] [(1, .v 1), (2, .v 2), (5, .v 5), (6, .v 6), (7, .v 7), (8, .v 8), (9, .v 9)]))))))))
 (.frz
 (.reg false [p (.mov (.v 9)),
 p (.bin .sub (.r 0) (.k (.int .i64 1))),
 p (.mov (.r 0))] [(1, .v 1), (2, .v 2), (5, .v 5), (6, .v 6), (7, .v 7), (8, .v 8), (9, .r 0)])))))))
 (.frz
 (.seq
 (.block 4
 (.seq
 (.reg false [p (.load (none) (.v 6)),
 p (.bin .neq (.r 0) (.k (.int .i64 0))),
 p (.mov (.r 0))] [(1, .v 1), (2, .v 2), (5, .v 5), (6, .v 6), (8, .v 8), (64, .r 0)])
 (.cond (.v 64)
 (.seq
 (.reg true [p (.build [.str [], .fsl .nil 4 []] []),
 p (.load (none) (.v 6)),
 ⟨.store (some 2) (.v 2) (.r 1), none, [0]⟩,
 p (.mov (.r 1))] [(2, .v 2), (3, .r 0)])
 .ret)
 (.seq
 (.reg false [p (.load (none) (.v 5)),
 p (.load (none) (.v 1)),
 p (.len true (.r 0)),
 p (.bin .neq (.r 2) (.r 0)),
 p (.mov (.r 0))] [(2, .v 2), (8, .v 8), (69, .r 0)])
 (.cond (.v 69)
 (.seq
 (.reg false [p (.build [.str [], .fsl .nil 4 []] []),
 p (.store (some 2) (.v 2) (.r 0)),
 p (.mov (.k (.int .i64 4)))] [(2, .v 2), (3, .r 0)])
 .ret)
 .skip)))))
 (.seq
 (.seq
 (.reg false [p (.load (some 2) (.v 8)),
 p (.call true (.k (.fn 52 [] [])) [.r 0]),
 p (.mov (.r 0))] [(2, .v 2), (8, .v 8), (12, .r 0)])
 (.seq
 (.reg false [p (.mov (.v 12)),
 p (.bin .neq (.r 0) (.k (.int .i64 0)))] [(2, .v 2), (8, .v 8), (12, .v 12), (78, .r 0)])
 (.cond (.v 78)
 (.seq
 (.reg false [p (.build [.str [], .fsl .nil 4 []] []),
 p (.mov (.v 12)),
 p (.store (some 2) (.v 2) (.r 1)),
 p (.mov (.r 1))] [(2, .v 2), (3, .r 0)])
 .ret)
 .skip)))
 (.seq
 (.reg false [p (.load (some 2) (.v 8)),
 p (.store (some 2) (.v 2) (.r 0)),
 p (.mov (.k (.int .i64 0)))] [(2, .v 2), (3, .r 0)])
 .ret)))))))))
def r37 : List RV := [.c 2 (some 2), .t 3]
theorem chk37 : Chk Try.prog Try.f37 c37 r37 := ⟨_, rfl, by kernel_rfl, by kernel_rfl⟩
theorem en37 : EnP Try.prog 37 82 c37 r37 := mkEnP (by kernel_rfl) Try.func37 (by kernel_rfl) chk37

/-- `penelope/peneloperef16.number` -/
def c60 : C :=
  (.seq
 (.reg false [p (.mov (.k (.str [])))] [(0, .v 0), (1, .v 1)])
 (.seq
 (.reg false [p (.mov (.v 0)),
 p (.mov (.v 1)),
 p (.call true (.k (.fn 61 [] [])) [.r 1, .r 0]),
 p (.mov (.r 0)),
 p (.ext (.r 0) 0),
 p (.ext (.r 1) 1),
 p (.mov (.r 1)),
 p (.mov (.r 1))] [(5, .r 1)])
 (.seq
 (.reg false [p (.mov (.v 5)),
 p (.mov (.r 0))] [(4, .r 0)])
 .ret)))
def r60 : List RV := [.t 4]
theorem chk60 : Chk Try.prog Try.f60 c60 r60 := ⟨_, rfl, by kernel_rfl, by kernel_rfl⟩
theorem en60 : EnP Try.prog 60 14 c60 r60 := mkEnP (by kernel_rfl) Try.func60 (by kernel_rfl) chk60

/-- `penelope/peneloperef16.Put` -/
def c30 : C :=
  (.seq
 (.reg false [p (.box 2 (.v 0)),
 p (.mov (.k (.str [])))] [(1, .r 1)])
 (.seq
 (.reg false [p (.fad 0 (.v 1)),
 p (.load (none) (.r 0)),
 p (.call true (.k (.fn 59 [] [])) [.r 0]),
 p (.mov (.r 0)),
 p (.ext (.r 0) 0),
 p (.ext (.r 1) 1),
 p (.mov (.r 1)),
 p (.mov (.r 1))] [(1, .v 1), (3, .r 1)])
 (.seq
 (.reg false [p (.mov (.v 3)),
 p (.fad 1 (.v 1)),
 p (.load (none) (.r 0)),
 p (.len false (.r 0)),
 p (.call true (.k (.fn 60 [] [])) [.r 0, .k (.int .i64 1)]),
 p (.bin .add (.r 4) (.r 0)),
 p (.mov (.r 0))] [(1, .v 1), (5, .r 0)])
 (.seq
 (.seq
 (.reg false [p (.fad 1 (.v 1)),
 p (.load (none) (.r 0)),
 p (.len false (.r 0)),
 p (.mov (.k (.int .i64 0)))] [(5, .v 5), (23, .r 2), (24, .r 1), (25, .r 0)])
 (.block 0
 (.loop
 (.seq
 (.reg false [p (.bin .lss (.v 25) (.v 24))] [(5, .v 5), (23, .v 23), (24, .v 24), (25, .v 25), (26, .r 0)])
 (.seq
 (.cond (.v 26)
 .skip
 (.exit 0))
 (.seq
 (.block 1
 (.seq
 (.reg false [p (.iad 4 (.v 23) (.v 25)),
 p (.load (some 4) (.r 0)),
 p (.alloc 4 (.agg [.fsl .nil 1 [], .int .i64 0, .int .i64 0, .int .i64 0])),
 p (.store (some 4) (.r 0) (.r 1))] [(5, .v 5), (7, .r 1), (23, .v 23), (24, .v 24), (25, .v 25)])
 (.seq
 (.reg false [p (.mov (.v 5)),
 p (.fad 0 (.v 7)),
 p (.load (none) (.r 0)),
 p (.len false (.r 0)),
 p (.call true (.k (.fn 60 [] [])) [.r 0, .k (.int .i64 1)]),
 p (.bin .add (.r 4) (.r 0)),
 p (.mov (.r 0))] [(5, .r 0), (7, .v 7), (23, .v 23), (24, .v 24), (25, .v 25)])
 (.seq
 (.seq
 (.reg false [p (.fad 0 (.v 7)),
 p (.load (none) (.r 0)),
 p (.len false (.r 0)),
 p (.mov (.k (.int .i64 0)))] [(5, .v 5), (7, .v 7), (23, .v 23), (24, .v 24), (25, .v 25), (36, .r 2), (37, .r 1), (38, .r 0)])
 (.block 2
 (.loop
 (.seq
 (.reg false [p (.bin .lss (.v 38) (.v 37))] [(5, .v 5), (7, .v 7), (23, .v 23), (24, .v 24), (25, .v 25), (36, .v 36), (37, .v 37), (38, .v 38), (39, .r 0)])
 (.seq
 (.cond (.v 39)
 .skip
 (.exit 2))
 (.seq
 (.block 3
 (.seq
 (.reg false [p (.iad 1 (.v 36) (.v 38)),
 p (.load (none) (.r 0)),
 p (.mov (.r 0))] [(5, .v 5), (7, .v 7), (9, .r 0), (23, .v 23), (24, .v 24), (25, .v 25), (36, .v 36), (37, .v 37), (38, .v 38)])
 (.reg false [p (.mov (.v 5)),
 p (.mov (.v 9)),
 p (.call true (.k (.fn 60 [] [])) [.r 0, .k (.int .i64 1)]),
 p (.bin .add (.r 2) (.r 0)),
 p (.mov (.r 0))] [(5, .r 0), (7, .v 7), (23, .v 23), (24, .v 24), (25, .v 25), (36, .v 36), (37, .v 37), (38, .v 38)])))
 (.reg false [p (.bin .add (.v 38) (.k (.int .i64 1))),
 p (.mov (.r 0))] [(5, .v 5), (7, .v 7), (23, .v 23), (24, .v 24), (25, .v 25), (36, .v 36), (37, .v 37), (38, .r 0)])))))))
 (.frz
 (.reg true [p (.mov (.v 5)),
 p (.fad 1 (.v 7)),
 p (.load (none) (.r 0)),
 p (.call true (.k (.fn 60 [] [])) [.r 0, .k (.int .i64 1)]),
 p (.bin .add (.r 3) (.r 0)),
 p (.fad 2 (.v 7)),
 p (.load (none) (.r 0)),
 p (.call true (.k (.fn 60 [] [])) [.r 0, .k (.int .i64 3)]),
 p (.bin .add (.r 3) (.r 0)),
 p (.fad 3 (.v 7)),
 p (.load (none) (.r 0)),
 p (.call true (.k (.fn 60 [] [])) [.r 0, .k (.int .i64 3)]),
 p (.bin .add (.r 3) (.r 0)),
 p (.mov (.r 0))] [(5, .r 0), (23, .v 23), (24, .v 24), (25, .v 25)]))))))
 (.frz
 (.reg false [p (.bin .add (.v 25) (.k (.int .i64 1))),
 p (.mov (.r 0))] [(5, .v 5), (23, .v 23), (24, .v 24), (25, .r 0)]))))))))
 (.frz
 (.seq
 (.reg false [p (.mov (.v 5)),
 p (.mov (.r 0))] [(2, .r 0)])
 .ret))))))
def r30 : List RV := [.t 2]
theorem chk30 : Chk Try.prog Try.f30 c30 r30 := ⟨_, rfl, by kernel_rfl, by kernel_rfl⟩
theorem en30 : EnP Try.prog 30 62 c30 r30 := mkEnP (by kernel_rfl) Try.func30 (by kernel_rfl) chk30

/-- `(*penelope/peneloperef16.R).Read` -/
def c67 : C :=
  (.seq
 (.reg false [p (.alloc 2 (.agg [.str [], .fsl .nil 4 []]))] [(0, .v 0), (2, .r 0)])
 (.seq
 (.reg false [p (.mov (.v 0)),
 p (.call false (.k (.fn 47 [] [])) [.r 0]),
 p (.build [.str [], .fsl .nil 4 []] [(0, 1, .r 0)]),
 p (.alloc 2 (.agg [.str [], .fsl .nil 4 []])),
 p (.store (some 2) (.r 0) (.r 1))] [(0, .v 0), (2, .v 2), (3, .r 1)])
 (.seq
 (.reg false [p (.mov (.v 0)),
 p (.call false (.k (.fn 46 [] [])) [.r 0, .k (.int .i64 1)]),
 p (.mov (.r 0))] [(0, .v 0), (2, .v 2), (3, .v 3), (4, .r 0)])
 (.seq
 (.seq
 (.reg false [p (.mov (.k (.int .i64 0)))] [(0, .v 0), (2, .v 2), (3, .v 3), (4, .v 4), (5, .r 0)])
 (.block 0
 (.loop
 (.seq
 (.seq
 (.reg false [p (.mov (.v 5)),
 p (.mov (.v 4)),
 p (.bin .lss (.r 1) (.r 0)),
 p (.mov (.r 0)),
 ⟨.mov (.v 0), some (0, true), []⟩,
 ⟨.nck (.r 0), some (1, true), []⟩,
 ⟨.fad 2 (.r 0), some (2, true), []⟩,
 ⟨.load (none) (.r 0), some (3, true), []⟩,
 ⟨.bin .eql (.r 0) (.k (.int .i64 0)), some (4, true), []⟩,
 p (.pick (.r 5) (.r 0) (.k (.bool false)))] [(0, .v 0), (2, .v 2), (3, .v 3), (4, .v 4), (5, .v 5), (23, .r 0)])
 (.cond (.v 23)
 .skip
 (.exit 0)))
 (.seq
 (.block 1
 (.seq
 (.reg false [p (.build [.fsl .nil 1 [], .int .i64 0, .int .i64 0, .int .i64 0] []),
 p (.alloc 4 (.agg [.fsl .nil 1 [], .int .i64 0, .int .i64 0, .int .i64 0])),
 p (.store (some 4) (.r 0) (.r 1))] [(0, .v 0), (2, .v 2), (3, .v 3), (4, .v 4), (5, .v 5), (6, .r 1)])
 (.seq
 (.reg false [p (.mov (.v 0)),
 p (.call false (.k (.fn 46 [] [])) [.r 0, .k (.int .i64 1)]),
 p (.mov (.r 0))] [(0, .v 0), (2, .v 2), (3, .v 3), (4, .v 4), (5, .v 5), (6, .v 6), (7, .r 0)])
 (.seq
 (.seq
 (.reg false [p (.mov (.k (.int .i64 0)))] [(0, .v 0), (2, .v 2), (3, .v 3), (4, .v 4), (5, .v 5), (6, .v 6), (7, .v 7), (8, .r 0)])
 (.block 2
 (.loop
 (.seq
 (.seq
 (.reg false [p (.mov (.v 8)),
 p (.mov (.v 7)),
 p (.bin .lss (.r 1) (.r 0)),
 p (.mov (.r 0)),
 ⟨.mov (.v 0), some (0, true), []⟩,
 ⟨.nck (.r 0), some (1, true), []⟩,
 ⟨.fad 2 (.r 0), some (2, true), []⟩,
 ⟨.load (none) (.r 0), some (3, true), []⟩,
 ⟨.bin .eql (.r 0) (.k (.int .i64 0)), some (4, true), []⟩,
 p (.pick (.r 5) (.r 0) (.k (.bool false)))] [(0, .v 0), (2, .v 2), (3, .v 3), (4, .v 4), (5, .v 5), (6, .v 6), (7, .v 7), (8, .v 8), (38, .r 0)])
 (.cond (.v 38)
 .skip
 (.exit 2)))
 (.seq
 (.block 3
 (.reg true [p (.fad 0 (.v 6)),
 p (.load (none) (.r 0)),
 p (.mov (.v 0)),
 ⟨.call false (.k (.fn 46 [] [])) [.r 0, .k (.int .i64 1)], none, [1]⟩,
 p (.bsl 1 [.r 0]),
 p (.app 1 8 (.r 3) (.r 0)),
 p (.fad 0 (.v 6)),
 p (.store (none) (.r 0) (.r 1))] [(0, .v 0), (2, .v 2), (3, .v 3), (4, .v 4), (5, .v 5), (6, .v 6), (7, .v 7), (8, .v 8)]))
 (.reg false [p (.mov (.v 8)),
 p (.bin .add (.r 0) (.k (.int .i64 1))),
 p (.mov (.r 0))] [(0, .v 0), (2, .v 2), (3, .v 3), (4, .v 4), (5, .v 5), (6, .v 6), (7, .v 7), (8, .r 0)]))))))
 (.frz
 (.seq
 (.reg false [p (.mov (.v 0)),
 p (.call false (.k (.fn 46 [] [])) [.r 0, .k (.int .i64 1)]),
 p (.fad 1 (.v 6)),
 p (.store (none) (.r 0) (.r 1))] [(0, .v 0), (2, .v 2), (3, .v 3), (4, .v 4), (5, .v 5), (6, .v 6)])
 (.seq
 (.reg false [p (.mov (.v 0)),
 p (.call false (.k (.fn 46 [] [])) [.r 0, .k (.int .i64 3)]),
 p (.fad 2 (.v 6)),
 p (.store (none) (.r 0) (.r 1))] [(0, .v 0), (2, .v 2), (3, .v 3), (4, .v 4), (5, .v 5), (6, .v 6)])
 (.seq
 (.reg false [p (.mov (.v 0)),
 p (.call false (.k (.fn 46 [] [])) [.r 0, .k (.int .i64 3)]),
 p (.fad 3 (.v 6)),
 p (.store (none) (.r 0) (.r 1))] [(0, .v 0), (2, .v 2), (3, .v 3), (4, .v 4), (5, .v 5), (6, .v 6)])
 (.reg false [p (.fad 1 (.v 3)),
 p (.load (none) (.r 0)),
 p (.load (some 4) (.v 6)),
 p (.bsl 4 [.r 0]),
 p (.app 4 48 (.r 2) (.r 0)),
 p (.fad 1 (.v 3)),
 p (.store (none) (.r 0) (.r 1))] [(0, .v 0), (2, .v 2), (3, .v 3), (4, .v 4), (5, .v 5)])))))))))
 (.frz
 (.reg false [p (.mov (.v 5)),
 p (.bin .add (.r 0) (.k (.int .i64 1))),
 p (.mov (.r 0))] [(0, .v 0), (2, .v 2), (3, .v 3), (4, .v 4), (5, .r 0)])))))))
 (.frz
 (.seq
 (.reg false [p (.load (some 2) (.v 3)),
 p (.store (some 2) (.v 2) (.r 0))] [(2, .v 2)])
 .ret))))))
def r67 : List RV := [.c 2 (some 2)]
theorem chk67 : Chk Try.prog Try.f67 c67 r67 := ⟨_, rfl, by kernel_rfl, by kernel_rfl⟩
theorem ena67 : EnA Try.prog 67 64 c67 r67 := mkEnA (by kernel_rfl) Try.func67 (by kernel_rfl) chk67
theorem en67 : EnP Try.prog 67 64 c67 r67 := mkEnP (by kernel_rfl) Try.func67 (by kernel_rfl) chk67

/-- `penelope/peneloperef16.SameInts` -/
def c68 : C :=
  (.seq
 (.reg false [p (.mov (.k (.bool false)))] [(0, .v 0), (1, .v 1)])
 (.seq
 (.seq
 (.reg false [p (.mov (.v 0)),
 p (.len false (.r 0)),
 p (.mov (.v 1)),
 p (.len false (.r 0)),
 p (.bin .neq (.r 2) (.r 0))] [(0, .v 0), (1, .v 1), (10, .r 0)])
 (.cond (.v 10)
 (.seq
 (.reg false [p (.mov (.k (.bool false)))] [(4, .r 0)])
 .ret)
 .skip))
 (.seq
 (.seq
 (.reg false [p (.mov (.v 0)),
 p (.len false (.r 0)),
 p (.mov (.k (.int .i64 0)))] [(0, .v 0), (1, .v 1), (12, .r 1), (13, .r 0)])
 (.block 0
 (.loop
 (.seq
 (.reg false [p (.bin .lss (.v 13) (.v 12))] [(0, .v 0), (1, .v 1), (12, .v 12), (13, .v 13), (14, .r 0)])
 (.seq
 (.cond (.v 14)
 .skip
 (.exit 0))
 (.seq
 (.block 1
 (.seq
 (.reg false [p (.mov (.v 13)),
 p (.mov (.r 0))] [(0, .v 0), (1, .v 1), (5, .r 0), (12, .v 12), (13, .v 13)])
 (.seq
 (.reg true [p (.mov (.v 0)),
 p (.mov (.v 5)),
 p (.iad 1 (.r 1) (.r 0)),
 p (.load (none) (.r 0)),
 p (.mov (.v 1)),
 p (.mov (.v 5)),
 p (.iad 1 (.r 1) (.r 0)),
 p (.load (none) (.r 0)),
 p (.bin .neq (.r 4) (.r 0))] [(0, .v 0), (1, .v 1), (12, .v 12), (13, .v 13), (24, .r 0)])
 (.cond (.v 24)
 (.seq
 (.reg false [p (.mov (.k (.bool false)))] [(4, .r 0)])
 .ret)
 .skip))))
 (.reg false [p (.bin .add (.v 13) (.k (.int .i64 1))),
 p (.mov (.r 0))] [(0, .v 0), (1, .v 1), (12, .v 12), (13, .r 0)])))))))
 (.frz
 (.seq
 (.reg false [p (.mov (.k (.bool true)))] [(4, .r 0)])
 .ret)))))
def r68 : List RV := [.t 4]
theorem chk68 : Chk Try.prog Try.f68 c68 r68 := ⟨_, rfl, by kernel_rfl, by kernel_rfl⟩
theorem en68 : EnP Try.prog 68 26 c68 r68 := mkEnP (by kernel_rfl) Try.func68 (by kernel_rfl) chk68

/-- `penelope/peneloperef16.Like` -/
def c41 : C :=
  (.seq
 (.reg false [p (.box 2 (.v 0)),
 p (.box 2 (.v 1)),
 p (.mov (.k (.bool false)))] [(2, .r 2), (3, .r 1)])
 (.seq
 (.seq
 (.reg false [p (.fad 0 (.v 2)),
 p (.load (none) (.r 0)),
 p (.fad 0 (.v 3)),
 p (.load (none) (.r 0)),
 p (.bin .neq (.r 2) (.r 0)),
 p (.mov (.r 0)),
 ⟨.fad 1 (.v 2), some (0, false), []⟩,
 ⟨.load (none) (.r 0), some (1, false), []⟩,
 ⟨.len false (.r 0), some (2, false), []⟩,
 ⟨.fad 1 (.v 3), some (3, false), []⟩,
 ⟨.load (none) (.r 0), some (4, false), []⟩,
 ⟨.len false (.r 0), some (5, false), []⟩,
 ⟨.bin .neq (.r 3) (.r 0), some (6, false), []⟩,
 p (.pick (.r 7) (.k (.bool true)) (.r 0))] [(2, .v 2), (3, .v 3), (21, .r 0)])
 (.cond (.v 21)
 (.seq
 (.reg false [p (.mov (.k (.bool false)))] [(4, .r 0)])
 .ret)
 .skip))
 (.seq
 (.seq
 (.reg false [p (.fad 1 (.v 2)),
 p (.load (none) (.r 0)),
 p (.len false (.r 0)),
 p (.mov (.k (.int .i64 0)))] [(3, .v 3), (23, .r 2), (24, .r 1), (25, .r 0)])
 (.block 0
 (.loop
 (.seq
 (.reg false [p (.bin .lss (.v 25) (.v 24))] [(3, .v 3), (23, .v 23), (24, .v 24), (25, .v 25), (26, .r 0)])
 (.seq
 (.cond (.v 26)
 .skip
 (.exit 0))
 (.seq
 (.block 1
 (.seq
 (.reg false [p (.mov (.v 25)),
 p (.iad 4 (.v 23) (.v 25)),
 p (.load (some 4) (.r 0)),
 p (.alloc 4 (.agg [.fsl .nil 1 [], .int .i64 0, .int .i64 0, .int .i64 0])),
 p (.mov (.r 3)),
 p (.store (some 4) (.r 1) (.r 2))] [(3, .v 3), (5, .r 1), (6, .r 2), (23, .v 23), (24, .v 24), (25, .v 25)])
 (.seq
 (.reg false [p (.fad 1 (.v 3)),
 p (.load (none) (.r 0)),
 p (.mov (.v 5)),
 p (.iad 4 (.r 1) (.r 0)),
 p (.load (some 4) (.r 0)),
 p (.alloc 4 (.agg [.fsl .nil 1 [], .int .i64 0, .int .i64 0, .int .i64 0])),
 p (.store (some 4) (.r 0) (.r 1))] [(3, .v 3), (6, .v 6), (7, .r 1), (23, .v 23), (24, .v 24), (25, .v 25)])
 (.seq
 (.reg false [p (.fad 0 (.v 6)),
 p (.load (none) (.r 0)),
 p (.fad 0 (.v 7)),
 p (.load (none) (.r 0)),
 p (.call true (.k (.fn 68 [] [])) [.r 2, .r 0]),
 p (.un .not (.r 0)),
 p (.mov (.r 0)),
 ⟨.fad 1 (.v 6), some (0, false), []⟩,
 ⟨.load (none) (.r 0), some (1, false), []⟩,
 ⟨.fad 1 (.v 7), some (2, false), []⟩,
 ⟨.load (none) (.r 0), some (3, false), []⟩,
 ⟨.bin .neq (.r 2) (.r 0), some (4, false), []⟩,
 p (.pick (.r 5) (.k (.bool true)) (.r 0)),
 p (.mov (.r 0)),
 ⟨.fad 2 (.v 6), some (0, false), []⟩,
 ⟨.load (none) (.r 0), some (1, false), []⟩,
 ⟨.fad 2 (.v 7), some (2, false), []⟩,
 ⟨.load (none) (.r 0), some (3, false), []⟩,
 ⟨.bin .neq (.r 2) (.r 0), some (4, false), []⟩,
 p (.pick (.r 5) (.k (.bool true)) (.r 0)),
 p (.mov (.r 0)),
 ⟨.fad 3 (.v 6), some (0, false), []⟩,
 ⟨.load (none) (.r 0), some (1, false), []⟩,
 ⟨.fad 3 (.v 7), some (2, false), []⟩,
 ⟨.load (none) (.r 0), some (3, false), []⟩,
 ⟨.bin .neq (.r 2) (.r 0), some (4, false), []⟩,
 p (.pick (.r 5) (.k (.bool true)) (.r 0))] [(3, .v 3), (23, .v 23), (24, .v 24), (25, .v 25), (61, .r 0)])
 (.cond (.v 61)
 (.seq
 (.reg false [p (.mov (.k (.bool false)))] [(4, .r 0)])
 .ret)
 .skip)))))
 (.reg false [p (.bin .add (.v 25) (.k (.int .i64 1))),
 p (.mov (.r 0))] [(3, .v 3), (23, .v 23), (24, .v 24), (25, .r 0)])))))))
 (.frz
 (.seq
 (.reg false [p (.mov (.k (.bool true)))] [(4, .r 0)])
 .ret)))))
def r41 : List RV := [.t 4]
theorem chk41 : Chk Try.prog Try.f41 c41 r41 := ⟨_, rfl, by kernel_rfl, by kernel_rfl⟩
theorem en41 : EnP Try.prog 41 63 c41 r41 := mkEnP (by kernel_rfl) Try.func41 (by kernel_rfl) chk41

/-- `(*penelope/frame.reader).rest` -/
def c38 : C :=
  (.seq
 (.reg false [p (.mov (.k (.str [])))] [(0, .v 0)])
 (.seq
 (.seq
 (.reg false [p (.mov (.v 0)),
 p (.nck (.r 0)),
 p (.fad 2 (.r 0)),
 p (.load (none) (.r 0))] [(0, .v 0), (7, .r 0)])
 (.cond (.v 7)
 (.seq
 (.reg false [p (.mov (.k (.str [])))] [(2, .r 0)])
 .ret)
 .skip))
 (.seq
 (.reg true [p (.mov (.v 0)),
 p (.nck (.r 0)),
 p (.fad 0 (.r 0)),
 p (.load (none) (.r 0)),
 p (.mov (.v 0)),
 p (.nck (.r 0)),
 p (.fad 1 (.r 0)),
 p (.load (none) (.r 0)),
 p (.sls (.r 4) (some (.r 0)) none),
 p (.mov (.r 0))] [(0, .v 0), (3, .r 0)])
 (.seq
 (.reg false [p (.mov (.v 0)),
 p (.mov (.v 0)),
 p (.nck (.r 0)),
 p (.fad 0 (.r 0)),
 p (.load (none) (.r 0)),
 p (.len true (.r 0)),
 p (.nck (.r 5)),
 p (.fad 1 (.r 0)),
 p (.store (none) (.r 0) (.r 2))] [(3, .v 3)])
 (.seq
 (.reg false [p (.mov (.v 3)),
 p (.mov (.r 0))] [(2, .r 0)])
 .ret)))))
def r38 : List RV := [.t 2]
theorem chk38 : Chk Try.prog Try.f38 c38 r38 := ⟨_, rfl, by kernel_rfl, by kernel_rfl⟩
theorem ena38 : EnA Try.prog 38 26 c38 r38 := mkEnA (by kernel_rfl) Try.func38 (by kernel_rfl) chk38
theorem en38 : EnP Try.prog 38 26 c38 r38 := mkEnP (by kernel_rfl) Try.func38 (by kernel_rfl) chk38

/-- `penelope/frame.Get` -/
def c10 : C :=
  (.seq
 (.reg false [p (.alloc 8 (.agg [.int .i64 0, .str [], .str [], .int .i64 0, .int .i64 0, .str [], .str [], .fsl .nil 4 []])),
 p (.mov (.k (.int .i64 0)))] [(0, .v 0), (2, .r 1)])
 (.seq
 (.reg false [p (.mov (.v 0)),
 p (.call false (.k (.fn 34 [] [])) [.r 0]),
 p (.mov (.r 0))] [(2, .v 2), (4, .r 0)])
 (.seq
 (.reg false [p (.mov (.v 4)),
 p (.mkf 35 [.r 0] []),
 p (.mov (.v 4)),
 p (.mkf 36 [.r 0] []),
 p (.mov (.r 2)),
 p (.mov (.r 1))] [(2, .v 2), (4, .v 4), (5, .r 1), (6, .r 0)])
 (.seq
 (.reg false [p (.mov (.v 5)),
 p (.call false (.r 0) [.k (.int .i64 1)]),
 p (.build [.int .i64 0, .str [], .str [], .int .i64 0, .int .i64 0, .str [], .str [], .fsl .nil 4 []] [(0, 1, .r 0)]),
 p (.alloc 8 (.agg [.int .i64 0, .str [], .str [], .int .i64 0, .int .i64 0, .str [], .str [], .fsl .nil 4 []])),
 p (.store (some 8) (.r 0) (.r 1))] [(2, .v 2), (4, .v 4), (5, .v 5), (6, .v 6), (7, .r 1)])
 (.seq
 (.seq
 (.reg false [p (.fad 0 (.v 7)),
 p (.load (none) (.r 0))] [(2, .v 2), (4, .v 4), (5, .v 5), (6, .v 6), (7, .v 7), (20, .r 0)])
 (.block 0
 (.seq
 (.reg false [p (.bin .eql (.v 20) (.k (.int .i64 1))),
 p (.mov (.r 0))] [(2, .v 2), (4, .v 4), (5, .v 5), (6, .v 6), (7, .v 7), (20, .v 20), (24, .r 0)])
 (.cond (.v 24)
 (.seq
 (.reg false [p (.mov (.v 4)),
 p (.call false (.k (.fn 38 [] [])) [.r 0]),
 p (.call true (.k (.fn 37 [] [])) [.r 0]),
 p (.mov (.r 0)),
 p (.ext (.r 0) 0),
 p (.ext (.r 1) 1),
 p (.alloc 2 (.agg [.str [], .fsl .nil 4 []])),
 p (.store (some 2) (.r 0) (.r 2)),
 p (.mov (.r 2))] [(2, .v 2), (4, .v 4), (7, .v 7), (8, .r 2), (9, .r 0)])
 (.reg true [p (.mov (.v 4)),
 p (.load (some 2) (.v 8)),
 p (.mov (.v 4)),
 p (.nck (.r 0)),
 p (.fad 2 (.r 0)),
 p (.load (none) (.r 0)),
 p (.mov (.r 0)),
 ⟨.mov (.v 9), some (0, false), []⟩,
 ⟨.bin .neq (.r 0) (.k (.int .i64 0)), some (1, false), []⟩,
 p (.pick (.r 2) (.k (.bool true)) (.r 0)),
 p (.fad 6 (.v 7)),
 p (.store (some 2) (.r 0) (.r 9)),
 p (.nck (.r 11)),
 p (.fad 2 (.r 0)),
 p (.store (none) (.r 0) (.r 4))] [(2, .v 2), (4, .v 4), (7, .v 7)]))
 (.seq
 (.reg false [p (.bin .eql (.v 20) (.k (.int .i64 2))),
 p (.mov (.r 0))] [(2, .v 2), (4, .v 4), (5, .v 5), (6, .v 6), (7, .v 7), (20, .v 20), (45, .r 0)])
 (.cond (.v 45)
 (.seq
 (.reg false [p (.mov (.v 6)),
 p (.call false (.r 0) []),
 p (.fad 1 (.v 7)),
 p (.store (none) (.r 0) (.r 1))] [(2, .v 2), (4, .v 4), (6, .v 6), (7, .v 7)])
 (.reg false [p (.mov (.v 6)),
 p (.call false (.r 0) []),
 p (.fad 2 (.v 7)),
 p (.store (none) (.r 0) (.r 1))] [(2, .v 2), (4, .v 4), (7, .v 7)]))
 (.seq
 (.seq
 (.reg false [p (.bin .eql (.v 20) (.k (.int .i64 4))),
 p (.mov (.r 0))] [(2, .v 2), (4, .v 4), (5, .v 5), (6, .v 6), (7, .v 7), (20, .v 20), (53, .r 0)])
 (.cond (.v 53)
 .skip
 (.reg false [p (.bin .eql (.v 20) (.k (.int .i64 6))),
 p (.mov (.r 0))] [(2, .v 2), (4, .v 4), (5, .v 5), (6, .v 6), (7, .v 7), (20, .v 20), (53, .r 0)])))
 (.cond (.v 53)
 (.reg false [p (.mov (.v 5)),
 p (.call false (.r 0) [.k (.int .i64 6)]),
 p (.fad 3 (.v 7)),
 p (.store (none) (.r 0) (.r 1))] [(2, .v 2), (4, .v 4), (7, .v 7)])
 (.seq
 (.reg false [p (.bin .eql (.v 20) (.k (.int .i64 5))),
 p (.mov (.r 0))] [(2, .v 2), (4, .v 4), (5, .v 5), (6, .v 6), (7, .v 7), (20, .v 20), (59, .r 0)])
 (.cond (.v 59)
 (.seq
 (.reg false [p (.mov (.v 5)),
 p (.call false (.r 0) [.k (.int .i64 6)]),
 p (.fad 3 (.v 7)),
 p (.store (none) (.r 0) (.r 1))] [(2, .v 2), (4, .v 4), (6, .v 6), (7, .v 7)])
 (.reg false [p (.mov (.v 6)),
 p (.call false (.r 0) []),
 p (.fad 5 (.v 7)),
 p (.store (none) (.r 0) (.r 1))] [(2, .v 2), (4, .v 4), (7, .v 7)]))
 (.seq
 (.seq
 (.reg false [p (.bin .eql (.v 20) (.k (.int .i64 7))),
 p (.mov (.r 0))] [(2, .v 2), (4, .v 4), (5, .v 5), (6, .v 6), (7, .v 7), (20, .v 20), (67, .r 0)])
 (.cond (.v 67)
 .skip
 (.reg false [p (.bin .eql (.v 20) (.k (.int .i64 9))),
 p (.mov (.r 0))] [(2, .v 2), (4, .v 4), (5, .v 5), (6, .v 6), (7, .v 7), (20, .v 20), (67, .r 0)])))
 (.cond (.v 67)
 (.reg false [p (.mov (.v 6)),
 p (.call false (.r 0) []),
 p (.fad 1 (.v 7)),
 p (.store (none) (.r 0) (.r 1))] [(2, .v 2), (4, .v 4), (7, .v 7)])
 (.seq
 (.reg false [p (.bin .eql (.v 20) (.k (.int .i64 8))),
 p (.mov (.r 0))] [(2, .v 2), (4, .v 4), (5, .v 5), (7, .v 7), (20, .v 20), (73, .r 0)])
 (.cond (.v 73)
 (.reg false [p (.mov (.v 5)),
 p (.call false (.r 0) [.k (.int .i64 6)]),
 p (.fad 4 (.v 7)),
 p (.store (none) (.r 0) (.r 1))] [(2, .v 2), (4, .v 4), (7, .v 7)])
 (.seq
 (.seq
 (.reg false [p (.bin .eql (.v 20) (.k (.int .i64 3))),
 p (.mov (.r 0))] [(2, .v 2), (4, .v 4), (7, .v 7), (20, .v 20), (78, .r 0)])
 (.cond (.v 78)
 .skip
 (.reg false [p (.bin .eql (.v 20) (.k (.int .i64 10))),
 p (.mov (.r 0))] [(2, .v 2), (4, .v 4), (7, .v 7), (78, .r 0)])))
 (.cond (.v 78)
 .skip
 (.reg false [p (.mov (.v 4)),
 p (.nck (.r 0)),
 p (.fad 2 (.r 0)),
 p (.store (none) (.r 0) (.k (.bool true)))] [(2, .v 2), (4, .v 4), (7, .v 7)])))))))))))))))))
 (.seq
 (.seq
 (.reg true [p (.mov (.v 4)),
 p (.nck (.r 0)),
 p (.fad 2 (.r 0)),
 p (.load (none) (.r 0)),
 p (.mov (.r 0)),
 ⟨.mov (.v 4), some (0, false), []⟩,
 ⟨.nck (.r 0), some (1, false), []⟩,
 ⟨.fad 1 (.r 0), some (2, false), []⟩,
 ⟨.load (none) (.r 0), some (3, false), []⟩,
 ⟨.mov (.v 4), some (4, false), []⟩,
 ⟨.nck (.r 0), some (5, false), []⟩,
 ⟨.fad 0 (.r 0), some (6, false), []⟩,
 ⟨.load (none) (.r 0), some (7, false), []⟩,
 ⟨.len true (.r 0), some (8, false), []⟩,
 ⟨.bin .neq (.r 5) (.r 0), some (9, false), []⟩,
 p (.pick (.r 10) (.k (.bool true)) (.r 0))] [(2, .v 2), (7, .v 7), (96, .r 0)])
 (.cond (.v 96)
 (.seq
 (.reg false [p (.build [.int .i64 0, .str [], .str [], .int .i64 0, .int .i64 0, .str [], .str [], .fsl .nil 4 []] []),
 p (.store (some 8) (.v 2) (.r 0)),
 p (.mov (.k (.int .i64 230)))] [(2, .v 2), (3, .r 0)])
 .ret)
 .skip))
 (.seq
 (.reg false [p (.load (some 8) (.v 7)),
 p (.store (some 8) (.v 2) (.r 0)),
 p (.mov (.k (.int .i64 0)))] [(2, .v 2), (3, .r 0)])
 .ret)))))))
def r10 : List RV := [.c 2 (some 8), .t 3]
theorem chk10 : Chk Try.prog Try.f10 c10 r10 := ⟨_, rfl, by kernel_rfl, by kernel_rfl⟩
theorem en10 : EnP Try.prog 10 99 c10 r10 := mkEnP (by kernel_rfl) Try.func10 (by kernel_rfl) chk10

/-- `penelope/peneloperef23.no` -/
def c28 : C :=
  (.seq
 (.reg false [p (.box 8 (.v 0)),
 p (.mov (.k (.bool false)))] [(1, .v 1), (2, .v 2), (3, .v 3), (4, .v 4), (5, .v 5), (6, .v 6), (7, .r 1)])
 (.seq
 (.reg false [p (.mov (.v 1)),
 p (.mov (.r 0)),
 ⟨.fad 1 (.v 7), some (0, true), []⟩,
 ⟨.load (none) (.r 0), some (1, true), []⟩,
 ⟨.bin .neq (.r 0) (.k (.str [])), some (2, true), []⟩,
 p (.pick (.r 3) (.r 0) (.k (.bool false))),
 p (.mov (.r 0)),
 ⟨.mov (.v 2), some (0, false), []⟩,
 ⟨.mov (.r 0), some (1, false), []⟩,
 ⟨.fad 2 (.v 7), some (0, true), []⟩,
 ⟨.load (none) (.r 0), some (1, true), []⟩,
 ⟨.bin .neq (.r 0) (.k (.str [])), some (2, true), []⟩,
 ⟨.pick (.r 3) (.r 0) (.k (.bool false)), some (5, false), []⟩,
 p (.pick (.r 6) (.k (.bool true)) (.r 0)),
 p (.mov (.r 0)),
 ⟨.mov (.v 3), some (0, false), []⟩,
 ⟨.mov (.r 0), some (1, false), []⟩,
 ⟨.fad 3 (.v 7), some (0, true), []⟩,
 ⟨.load (none) (.r 0), some (1, true), []⟩,
 ⟨.bin .neq (.r 0) (.k (.int .i64 0)), some (2, true), []⟩,
 ⟨.pick (.r 3) (.r 0) (.k (.bool false)), some (5, false), []⟩,
 p (.pick (.r 6) (.k (.bool true)) (.r 0)),
 p (.mov (.r 0)),
 ⟨.mov (.v 4), some (0, false), []⟩,
 ⟨.mov (.r 0), some (1, false), []⟩,
 ⟨.fad 4 (.v 7), some (0, true), []⟩,
 ⟨.load (none) (.r 0), some (1, true), []⟩,
 ⟨.bin .neq (.r 0) (.k (.int .i64 0)), some (2, true), []⟩,
 ⟨.pick (.r 3) (.r 0) (.k (.bool false)), some (5, false), []⟩,
 p (.pick (.r 6) (.k (.bool true)) (.r 0)),
 p (.mov (.r 0)),
 ⟨.mov (.v 5), some (0, false), []⟩,
 ⟨.mov (.r 0), some (1, false), []⟩,
 ⟨.fad 5 (.v 7), some (0, true), []⟩,
 ⟨.load (none) (.r 0), some (1, true), []⟩,
 ⟨.bin .neq (.r 0) (.k (.str [])), some (2, true), []⟩,
 ⟨.pick (.r 3) (.r 0) (.k (.bool false)), some (5, false), []⟩,
 p (.pick (.r 6) (.k (.bool true)) (.r 0)),
 p (.mov (.r 0)),
 ⟨.mov (.v 6), some (0, false), []⟩,
 ⟨.mov (.r 0), some (1, false), []⟩,
 ⟨.fad 6 (.v 7), some (0, true), []⟩,
 ⟨.fad 0 (.r 0), some (1, true), []⟩,
 ⟨.load (none) (.r 0), some (2, true), []⟩,
 ⟨.bin .neq (.r 0) (.k (.str [])), some (3, true), []⟩,
 ⟨.mov (.r 0), some (4, true), []⟩,
 ⟨.fad 6 (.v 7), some (0, false), []⟩,
 ⟨.fad 1 (.r 0), some (1, false), []⟩,
 ⟨.load (none) (.r 0), some (2, false), []⟩,
 ⟨.len false (.r 0), some (3, false), []⟩,
 ⟨.bin .gtr (.r 0) (.k (.int .i64 0)), some (4, false), []⟩,
 ⟨.pick (.r 5) (.k (.bool true)) (.r 0), some (10, true), []⟩,
 ⟨.pick (.r 11) (.r 0) (.k (.bool false)), some (13, false), []⟩,
 p (.pick (.r 14) (.k (.bool true)) (.r 0)),
 p (.un .not (.r 0)),
 p (.mov (.r 0))] [(14, .r 0)])
 .ret))
def r28 : List RV := [.t 14]
theorem chk28 : Chk Try.prog Try.f28 c28 r28 := ⟨_, rfl, by kernel_rfl, by kernel_rfl⟩
theorem en28 : EnP Try.prog 28 70 c28 r28 := mkEnP (by kernel_rfl) Try.func28 (by kernel_rfl) chk28

/-- `penelope/peneloperef23.Put` -/
def c9 : C :=
  (.seq
 (.reg false [p (.box 8 (.v 0)),
 p (.mov (.k (.str []))),
 p (.mov (.k (.int .i64 0)))] [(1, .r 2)])
 (.seq
 (.reg false [p (.mov (.k (.str [])))] [(1, .v 1), (4, .r 0)])
 (.seq
 (.reg false [p (.fad 1 (.v 1)),
 p (.load (none) (.r 0)),
 p (.len true (.r 0)),
 p (.bin .leq (.r 0) (.k (.int .i64 255))),
 p (.mov (.r 0)),
 ⟨.fad 2 (.v 1), some (0, true), []⟩,
 ⟨.load (none) (.r 0), some (1, true), []⟩,
 ⟨.len true (.r 0), some (2, true), []⟩,
 ⟨.bin .leq (.r 0) (.k (.int .i64 255)), some (3, true), []⟩,
 p (.pick (.r 4) (.r 0) (.k (.bool false))),
 p (.mov (.r 0)),
 ⟨.fad 5 (.v 1), some (0, true), []⟩,
 ⟨.load (none) (.r 0), some (1, true), []⟩,
 ⟨.len true (.r 0), some (2, true), []⟩,
 ⟨.bin .leq (.r 0) (.k (.int .i64 255)), some (3, true), []⟩,
 p (.pick (.r 4) (.r 0) (.k (.bool false))),
 p (.mov (.r 0)),
 ⟨.fad 3 (.v 1), some (0, true), []⟩,
 ⟨.load (none) (.r 0), some (1, true), []⟩,
 ⟨.call true (.k (.fn 27 [] [])) [.r 0], some (2, true), []⟩,
 p (.pick (.r 3) (.r 0) (.k (.bool false))),
 p (.mov (.r 0)),
 ⟨.fad 4 (.v 1), some (0, true), []⟩,
 ⟨.load (none) (.r 0), some (1, true), []⟩,
 ⟨.call true (.k (.fn 27 [] [])) [.r 0], some (2, true), []⟩,
 p (.pick (.r 3) (.r 0) (.k (.bool false))),
 p (.mov (.r 0))] [(1, .v 1), (4, .v 4), (5, .r 0)])
 (.seq
 (.seq
 (.reg false [p (.fad 0 (.v 1)),
 p (.load (none) (.r 0))] [(1, .v 1), (4, .v 4), (5, .v 5), (33, .r 0)])
 (.block 0
 (.seq
 (.reg false [p (.bin .eql (.v 33) (.k (.int .i64 1))),
 p (.mov (.r 0))] [(1, .v 1), (4, .v 4), (5, .v 5), (33, .v 33), (34, .r 0)])
 (.cond (.v 34)
 (.seq
 (.reg false [p (.mov (.v 5)),
 p (.mov (.r 0)),
 ⟨.load (some 8) (.v 1), some (0, true), []⟩,
 ⟨.call true (.k (.fn 28 [] [])) [.r 0, .k (.bool true), .k (.bool true), .k (.bool true), .k (.bool true), .k (.bool true), .k (.bool false)], some (1, true), []⟩,
 p (.pick (.r 2) (.r 0) (.k (.bool false))),
 p (.mov (.r 0)),
 ⟨.fad 6 (.v 1), some (0, true), []⟩,
 ⟨.load (some 2) (.r 0), some (1, true), []⟩,
 ⟨.call true (.k (.fn 29 [] [])) [.r 0], some (2, true), []⟩,
 ⟨.bin .eql (.r 0) (.k (.int .i64 0)), some (3, true), []⟩,
 p (.pick (.r 4) (.r 0) (.k (.bool false))),
 p (.mov (.r 0))] [(1, .v 1), (4, .v 4), (5, .r 0)])
 (.seq
 (.reg false [p (.mov (.v 5))] [(1, .v 1), (4, .v 4), (5, .v 5), (47, .r 0)])
 (.cond (.v 47)
 (.reg false [p (.fad 6 (.v 1)),
 p (.load (some 2) (.r 0)),
 p (.call true (.k (.fn 30 [] [])) [.r 0]),
 p (.mov (.r 0))] [(1, .v 1), (4, .r 0), (5, .v 5)])
 .skip)))
 (.seq
 (.reg false [p (.bin .eql (.v 33) (.k (.int .i64 2))),
 p (.mov (.r 0))] [(1, .v 1), (4, .v 4), (5, .v 5), (33, .v 33), (51, .r 0)])
 (.cond (.v 51)
 (.seq
 (.reg false [p (.mov (.v 5)),
 p (.mov (.r 0)),
 ⟨.load (some 8) (.v 1), some (0, true), []⟩,
 ⟨.call true (.k (.fn 28 [] [])) [.r 0, .k (.bool false), .k (.bool false), .k (.bool true), .k (.bool true), .k (.bool true), .k (.bool true)], some (1, true), []⟩,
 p (.pick (.r 2) (.r 0) (.k (.bool false))),
 p (.mov (.r 0))] [(1, .v 1), (5, .r 0)])
 (.reg true [p (.fad 1 (.v 1)),
 p (.load (none) (.r 0)),
 p (.call true (.k (.fn 31 [] [])) [.r 0]),
 p (.fad 2 (.v 1)),
 p (.load (none) (.r 0)),
 p (.call true (.k (.fn 31 [] [])) [.r 0]),
 p (.bin .add (.r 3) (.r 0)),
 p (.mov (.r 0))] [(1, .v 1), (4, .r 0), (5, .v 5)]))
 (.seq
 (.seq
 (.reg false [p (.bin .eql (.v 33) (.k (.int .i64 4))),
 p (.mov (.r 0))] [(1, .v 1), (4, .v 4), (5, .v 5), (33, .v 33), (65, .r 0)])
 (.cond (.v 65)
 .skip
 (.reg false [p (.bin .eql (.v 33) (.k (.int .i64 6))),
 p (.mov (.r 0))] [(1, .v 1), (4, .v 4), (5, .v 5), (33, .v 33), (65, .r 0)])))
 (.cond (.v 65)
 (.seq
 (.reg false [p (.mov (.v 5)),
 p (.mov (.r 0)),
 ⟨.load (some 8) (.v 1), some (0, true), []⟩,
 ⟨.call true (.k (.fn 28 [] [])) [.r 0, .k (.bool true), .k (.bool true), .k (.bool false), .k (.bool true), .k (.bool true), .k (.bool true)], some (1, true), []⟩,
 p (.pick (.r 2) (.r 0) (.k (.bool false))),
 p (.mov (.r 0))] [(1, .v 1), (5, .r 0)])
 (.reg false [p (.fad 3 (.v 1)),
 p (.load (none) (.r 0)),
 p (.call true (.k (.fn 32 [] [])) [.r 0, .k (.int .i64 6)]),
 p (.mov (.r 0))] [(1, .v 1), (4, .r 0), (5, .v 5)]))
 (.seq
 (.reg false [p (.bin .eql (.v 33) (.k (.int .i64 5))),
 p (.mov (.r 0))] [(1, .v 1), (4, .v 4), (5, .v 5), (33, .v 33), (76, .r 0)])
 (.cond (.v 76)
 (.seq
 (.reg false [p (.mov (.v 5)),
 p (.mov (.r 0)),
 ⟨.load (some 8) (.v 1), some (0, true), []⟩,
 ⟨.call true (.k (.fn 28 [] [])) [.r 0, .k (.bool true), .k (.bool true), .k (.bool false), .k (.bool true), .k (.bool false), .k (.bool true)], some (1, true), []⟩,
 p (.pick (.r 2) (.r 0) (.k (.bool false))),
 p (.mov (.r 0))] [(1, .v 1), (5, .r 0)])
 (.reg true [p (.fad 3 (.v 1)),
 p (.load (none) (.r 0)),
 p (.call true (.k (.fn 32 [] [])) [.r 0, .k (.int .i64 6)]),
 p (.fad 5 (.v 1)),
 p (.load (none) (.r 0)),
 p (.call true (.k (.fn 31 [] [])) [.r 0]),
 p (.bin .add (.r 3) (.r 0)),
 p (.mov (.r 0))] [(1, .v 1), (4, .r 0), (5, .v 5)]))
 (.seq
 (.seq
 (.reg false [p (.bin .eql (.v 33) (.k (.int .i64 7))),
 p (.mov (.r 0))] [(1, .v 1), (4, .v 4), (5, .v 5), (33, .v 33), (90, .r 0)])
 (.cond (.v 90)
 .skip
 (.reg false [p (.bin .eql (.v 33) (.k (.int .i64 9))),
 p (.mov (.r 0))] [(1, .v 1), (4, .v 4), (5, .v 5), (33, .v 33), (90, .r 0)])))
 (.cond (.v 90)
 (.seq
 (.reg false [p (.mov (.v 5)),
 p (.mov (.r 0)),
 ⟨.load (some 8) (.v 1), some (0, true), []⟩,
 ⟨.call true (.k (.fn 28 [] [])) [.r 0, .k (.bool false), .k (.bool true), .k (.bool true), .k (.bool true), .k (.bool true), .k (.bool true)], some (1, true), []⟩,
 p (.pick (.r 2) (.r 0) (.k (.bool false))),
 p (.mov (.r 0))] [(1, .v 1), (5, .r 0)])
 (.reg false [p (.fad 1 (.v 1)),
 p (.load (none) (.r 0)),
 p (.call true (.k (.fn 31 [] [])) [.r 0]),
 p (.mov (.r 0))] [(1, .v 1), (4, .r 0), (5, .v 5)]))
 (.seq
 (.reg false [p (.bin .eql (.v 33) (.k (.int .i64 8))),
 p (.mov (.r 0))] [(1, .v 1), (4, .v 4), (5, .v 5), (33, .v 33), (101, .r 0)])
 (.cond (.v 101)
 (.seq
 (.reg false [p (.mov (.v 5)),
 p (.mov (.r 0)),
 ⟨.load (some 8) (.v 1), some (0, true), []⟩,
 ⟨.call true (.k (.fn 28 [] [])) [.r 0, .k (.bool true), .k (.bool true), .k (.bool true), .k (.bool false), .k (.bool true), .k (.bool true)], some (1, true), []⟩,
 p (.pick (.r 2) (.r 0) (.k (.bool false))),
 p (.mov (.r 0))] [(1, .v 1), (5, .r 0)])
 (.reg false [p (.fad 4 (.v 1)),
 p (.load (none) (.r 0)),
 p (.call true (.k (.fn 32 [] [])) [.r 0, .k (.int .i64 6)]),
 p (.mov (.r 0))] [(1, .v 1), (4, .r 0), (5, .v 5)]))
 (.seq
 (.seq
 (.reg false [p (.bin .eql (.v 33) (.k (.int .i64 3))),
 p (.mov (.r 0))] [(1, .v 1), (4, .v 4), (5, .v 5), (33, .v 33), (111, .r 0)])
 (.cond (.v 111)
 .skip
 (.reg false [p (.bin .eql (.v 33) (.k (.int .i64 10))),
 p (.mov (.r 0))] [(1, .v 1), (4, .v 4), (5, .v 5), (111, .r 0)])))
 (.cond (.v 111)
 (.reg false [p (.mov (.v 5)),
 p (.mov (.r 0)),
 ⟨.load (some 8) (.v 1), some (0, true), []⟩,
 ⟨.call true (.k (.fn 28 [] [])) [.r 0, .k (.bool true), .k (.bool true), .k (.bool true), .k (.bool true), .k (.bool true), .k (.bool true)], some (1, true), []⟩,
 p (.pick (.r 2) (.r 0) (.k (.bool false))),
 p (.mov (.r 0))] [(1, .v 1), (4, .v 4), (5, .r 0)])
 (.reg false [p (.mov (.k (.bool false)))] [(1, .v 1), (4, .v 4), (5, .r 0)])))))))))))))))))
 (.seq
 (.seq
 (.reg false [p (.mov (.v 5)),
 p (.un .not (.r 0))] [(1, .v 1), (4, .v 4), (120, .r 0)])
 (.cond (.v 120)
 (.seq
 (.reg false [p (.mov (.k (.str []))),
 p (.mov (.k (.int .i64 1)))] [(2, .r 1), (3, .r 0)])
 .ret)
 .skip))
 (.seq
 (.reg false [p (.fad 0 (.v 1)),
 p (.load (none) (.r 0)),
 p (.call true (.k (.fn 32 [] [])) [.r 0, .k (.int .i64 1)]),
 p (.mov (.v 4)),
 p (.bin .add (.r 1) (.r 0)),
 p (.call true (.k (.fn 33 [] [])) [.r 0]),
 p (.mov (.r 0)),
 p (.mov (.k (.int .i64 0)))] [(2, .r 1), (3, .r 0)])
 .ret))))))
def r9 : List RV := [.t 2, .t 3]
theorem chk9 : Chk Try.prog Try.f9 c9 r9 := ⟨_, rfl, by kernel_rfl, by kernel_rfl⟩
theorem en9 : EnP Try.prog 9 127 c9 r9 := mkEnP (by kernel_rfl) Try.func9 (by kernel_rfl) chk9

/-- `penelope/peneloperef23.read` -/
def c40 : C :=
  (.seq
 (.reg false [p (.alloc 8 (.agg [.int .i64 0, .str [], .str [], .int .i64 0, .int .i64 0, .str [], .str [], .fsl .nil 4 []]))] [(0, .v 0), (2, .r 0)])
 (.seq
 (.reg false [p (.mov (.v 0)),
 p (.build [.str [], .int .i64 0, .int .i64 0] [(0, 1, .r 0)]),
 p (.box 3 (.r 0)),
 p (.mov (.r 0))] [(2, .v 2), (3, .r 0)])
 (.seq
 (.reg false [p (.mov (.v 3)),
 p (.call false (.k (.fn 46 [] [])) [.r 0, .k (.int .i64 1)]),
 p (.build [.int .i64 0, .str [], .str [], .int .i64 0, .int .i64 0, .str [], .str [], .fsl .nil 4 []] [(0, 1, .r 0)]),
 p (.alloc 8 (.agg [.int .i64 0, .str [], .str [], .int .i64 0, .int .i64 0, .str [], .str [], .fsl .nil 4 []])),
 p (.store (some 8) (.r 0) (.r 1))] [(2, .v 2), (3, .v 3), (4, .r 1)])
 (.seq
 (.seq
 (.reg false [p (.fad 0 (.v 4)),
 p (.load (none) (.r 0))] [(2, .v 2), (3, .v 3), (4, .v 4), (12, .r 0)])
 (.block 0
 (.seq
 (.reg false [p (.bin .eql (.v 12) (.k (.int .i64 1))),
 p (.mov (.r 0))] [(2, .v 2), (3, .v 3), (4, .v 4), (12, .v 12), (13, .r 0)])
 (.cond (.v 13)
 (.reg false [p (.mov (.v 3)),
 p (.call false (.k (.fn 67 [] [])) [.r 0]),
 p (.fad 6 (.v 4)),
 p (.store (some 2) (.r 0) (.r 1))] [(2, .v 2), (4, .v 4)])
 (.seq
 (.reg false [p (.bin .eql (.v 12) (.k (.int .i64 2))),
 p (.mov (.r 0))] [(2, .v 2), (3, .v 3), (4, .v 4), (12, .v 12), (18, .r 0)])
 (.cond (.v 18)
 (.seq
 (.reg false [p (.mov (.v 3)),
 p (.call false (.k (.fn 47 [] [])) [.r 0]),
 p (.fad 1 (.v 4)),
 p (.store (none) (.r 0) (.r 1))] [(2, .v 2), (3, .v 3), (4, .v 4)])
 (.reg false [p (.mov (.v 3)),
 p (.call false (.k (.fn 47 [] [])) [.r 0]),
 p (.fad 2 (.v 4)),
 p (.store (none) (.r 0) (.r 1))] [(2, .v 2), (4, .v 4)]))
 (.seq
 (.seq
 (.reg false [p (.bin .eql (.v 12) (.k (.int .i64 4))),
 p (.mov (.r 0))] [(2, .v 2), (3, .v 3), (4, .v 4), (12, .v 12), (26, .r 0)])
 (.cond (.v 26)
 .skip
 (.reg false [p (.bin .eql (.v 12) (.k (.int .i64 6))),
 p (.mov (.r 0))] [(2, .v 2), (3, .v 3), (4, .v 4), (12, .v 12), (26, .r 0)])))
 (.cond (.v 26)
 (.reg false [p (.mov (.v 3)),
 p (.call false (.k (.fn 46 [] [])) [.r 0, .k (.int .i64 6)]),
 p (.fad 3 (.v 4)),
 p (.store (none) (.r 0) (.r 1))] [(2, .v 2), (4, .v 4)])
 (.seq
 (.reg false [p (.bin .eql (.v 12) (.k (.int .i64 5))),
 p (.mov (.r 0))] [(2, .v 2), (3, .v 3), (4, .v 4), (12, .v 12), (32, .r 0)])
 (.cond (.v 32)
 (.seq
 (.reg false [p (.mov (.v 3)),
 p (.call false (.k (.fn 46 [] [])) [.r 0, .k (.int .i64 6)]),
 p (.fad 3 (.v 4)),
 p (.store (none) (.r 0) (.r 1))] [(2, .v 2), (3, .v 3), (4, .v 4)])
 (.reg false [p (.mov (.v 3)),
 p (.call false (.k (.fn 47 [] [])) [.r 0]),
 p (.fad 5 (.v 4)),
 p (.store (none) (.r 0) (.r 1))] [(2, .v 2), (4, .v 4)]))
 (.seq
 (.seq
 (.reg false [p (.bin .eql (.v 12) (.k (.int .i64 7))),
 p (.mov (.r 0))] [(2, .v 2), (3, .v 3), (4, .v 4), (12, .v 12), (40, .r 0)])
 (.cond (.v 40)
 .skip
 (.reg false [p (.bin .eql (.v 12) (.k (.int .i64 9))),
 p (.mov (.r 0))] [(2, .v 2), (3, .v 3), (4, .v 4), (12, .v 12), (40, .r 0)])))
 (.cond (.v 40)
 (.reg false [p (.mov (.v 3)),
 p (.call false (.k (.fn 47 [] [])) [.r 0]),
 p (.fad 1 (.v 4)),
 p (.store (none) (.r 0) (.r 1))] [(2, .v 2), (4, .v 4)])
 (.seq
 (.reg false [p (.bin .eql (.v 12) (.k (.int .i64 8))),
 p (.mov (.r 0))] [(2, .v 2), (3, .v 3), (4, .v 4), (46, .r 0)])
 (.cond (.v 46)
 (.reg false [p (.mov (.v 3)),
 p (.call false (.k (.fn 46 [] [])) [.r 0, .k (.int .i64 6)]),
 p (.fad 4 (.v 4)),
 p (.store (none) (.r 0) (.r 1))] [(2, .v 2), (4, .v 4)])
 .skip))))))))))))))
 (.seq
 (.reg false [p (.load (some 8) (.v 4)),
 p (.store (some 8) (.v 2) (.r 0))] [(2, .v 2)])
 .ret)))))
def r40 : List RV := [.c 2 (some 8)]
theorem chk40 : Chk Try.prog Try.f40 c40 r40 := ⟨_, rfl, by kernel_rfl, by kernel_rfl⟩
theorem en40 : EnP Try.prog 40 52 c40 r40 := mkEnP (by kernel_rfl) Try.func40 (by kernel_rfl) chk40

/-- `penelope/peneloperef23.Get` -/
def c11 : C :=
  (.seq
 (.reg false [p (.alloc 8 (.agg [.int .i64 0, .str [], .str [], .int .i64 0, .int .i64 0, .str [], .str [], .fsl .nil 4 []])),
 p (.mov (.k (.int .i64 0)))] [(0, .v 0), (2, .r 1)])
 (.seq
 (.reg false [p (.mov (.v 0)),
 p (.call true (.k (.fn 39 [] [])) [.r 0]),
 p (.mov (.r 0)),
 p (.ext (.r 0) 0),
 p (.ext (.r 1) 1),
 p (.mov (.r 1)),
 p (.mov (.r 1))] [(0, .v 0), (2, .v 2), (4, .r 1), (5, .r 0)])
 (.seq
 (.seq
 (.reg false [p (.mov (.v 5)),
 p (.bin .neq (.r 0) (.k (.int .i64 0)))] [(0, .v 0), (2, .v 2), (4, .v 4), (15, .r 0)])
 (.cond (.v 15)
 (.seq
 (.reg false [p (.build [.int .i64 0, .str [], .str [], .int .i64 0, .int .i64 0, .str [], .str [], .fsl .nil 4 []] []),
 p (.store (some 8) (.v 2) (.r 0)),
 p (.mov (.k (.int .i64 230)))] [(2, .v 2), (3, .r 0)])
 .ret)
 .skip))
 (.seq
 (.reg false [p (.mov (.v 4)),
 p (.call true (.k (.fn 40 [] [])) [.r 0]),
 p (.alloc 8 (.agg [.int .i64 0, .str [], .str [], .int .i64 0, .int .i64 0, .str [], .str [], .fsl .nil 4 []])),
 p (.store (some 8) (.r 0) (.r 1))] [(0, .v 0), (2, .v 2), (6, .r 1)])
 (.seq
 (.reg false [p (.load (some 8) (.v 6)),
 p (.call true (.k (.fn 9 [] [])) [.r 0]),
 p (.mov (.r 0)),
 p (.ext (.r 0) 0),
 p (.ext (.r 1) 1),
 p (.mov (.r 1)),
 p (.mov (.r 1))] [(0, .v 0), (2, .v 2), (6, .v 6), (7, .r 1), (8, .r 0)])
 (.seq
 (.seq
 (.reg false [p (.mov (.v 8)),
 p (.bin .neq (.r 0) (.k (.int .i64 0))),
 p (.mov (.r 0)),
 ⟨.mov (.v 7), some (0, false), []⟩,
 ⟨.mov (.v 0), some (1, false), []⟩,
 ⟨.bin .neq (.r 1) (.r 0), some (2, false), []⟩,
 p (.pick (.r 3) (.k (.bool true)) (.r 0))] [(2, .v 2), (6, .v 6), (30, .r 0)])
 (.cond (.v 30)
 (.seq
 (.reg false [p (.build [.int .i64 0, .str [], .str [], .int .i64 0, .int .i64 0, .str [], .str [], .fsl .nil 4 []] []),
 p (.store (some 8) (.v 2) (.r 0)),
 p (.mov (.k (.int .i64 230)))] [(2, .v 2), (3, .r 0)])
 .ret)
 .skip))
 (.seq
 (.reg false [p (.load (some 8) (.v 6)),
 p (.store (some 8) (.v 2) (.r 0)),
 p (.mov (.k (.int .i64 0)))] [(2, .v 2), (3, .r 0)])
 .ret)))))))
def r11 : List RV := [.c 2 (some 8), .t 3]
theorem chk11 : Chk Try.prog Try.f11 c11 r11 := ⟨_, rfl, by kernel_rfl, by kernel_rfl⟩
theorem en11 : EnP Try.prog 11 33 c11 r11 := mkEnP (by kernel_rfl) Try.func11 (by kernel_rfl) chk11

/-- `penelope/peneloperef23.Like` -/
def c13 : C :=
  (.seq
 (.reg false [p (.box 8 (.v 0)),
 p (.box 8 (.v 1)),
 p (.mov (.k (.bool false)))] [(2, .r 2), (3, .r 1)])
 (.seq
 (.reg false [p (.fad 0 (.v 2)),
 p (.load (none) (.r 0)),
 p (.fad 0 (.v 3)),
 p (.load (none) (.r 0)),
 p (.bin .eql (.r 2) (.r 0)),
 p (.mov (.r 0)),
 ⟨.fad 1 (.v 2), some (0, true), []⟩,
 ⟨.load (none) (.r 0), some (1, true), []⟩,
 ⟨.fad 1 (.v 3), some (2, true), []⟩,
 ⟨.load (none) (.r 0), some (3, true), []⟩,
 ⟨.bin .eql (.r 2) (.r 0), some (4, true), []⟩,
 p (.pick (.r 5) (.r 0) (.k (.bool false))),
 p (.mov (.r 0)),
 ⟨.fad 2 (.v 2), some (0, true), []⟩,
 ⟨.load (none) (.r 0), some (1, true), []⟩,
 ⟨.fad 2 (.v 3), some (2, true), []⟩,
 ⟨.load (none) (.r 0), some (3, true), []⟩,
 ⟨.bin .eql (.r 2) (.r 0), some (4, true), []⟩,
 p (.pick (.r 5) (.r 0) (.k (.bool false))),
 p (.mov (.r 0)),
 ⟨.fad 3 (.v 2), some (0, true), []⟩,
 ⟨.load (none) (.r 0), some (1, true), []⟩,
 ⟨.fad 3 (.v 3), some (2, true), []⟩,
 ⟨.load (none) (.r 0), some (3, true), []⟩,
 ⟨.bin .eql (.r 2) (.r 0), some (4, true), []⟩,
 p (.pick (.r 5) (.r 0) (.k (.bool false))),
 p (.mov (.r 0)),
 ⟨.fad 4 (.v 2), some (0, true), []⟩,
 ⟨.load (none) (.r 0), some (1, true), []⟩,
 ⟨.fad 4 (.v 3), some (2, true), []⟩,
 ⟨.load (none) (.r 0), some (3, true), []⟩,
 ⟨.bin .eql (.r 2) (.r 0), some (4, true), []⟩,
 p (.pick (.r 5) (.r 0) (.k (.bool false))),
 p (.mov (.r 0)),
 ⟨.fad 5 (.v 2), some (0, true), []⟩,
 ⟨.load (none) (.r 0), some (1, true), []⟩,
 ⟨.fad 5 (.v 3), some (2, true), []⟩,
 ⟨.load (none) (.r 0), some (3, true), []⟩,
 ⟨.bin .eql (.r 2) (.r 0), some (4, true), []⟩,
 p (.pick (.r 5) (.r 0) (.k (.bool false))),
 p (.mov (.r 0)),
 ⟨.fad 6 (.v 2), some (0, true), []⟩,
 ⟨.load (some 2) (.r 0), some (1, true), []⟩,
 ⟨.fad 6 (.v 3), some (2, true), []⟩,
 ⟨.load (some 2) (.r 0), some (3, true), []⟩,
 ⟨.call true (.k (.fn 41 [] [])) [.r 2, .r 0], some (4, true), []⟩,
 p (.pick (.r 5) (.r 0) (.k (.bool false))),
 p (.mov (.r 0))] [(4, .r 0)])
 .ret))
def r13 : List RV := [.t 4]
theorem chk13 : Chk Try.prog Try.f13 c13 r13 := ⟨_, rfl, by kernel_rfl, by kernel_rfl⟩
theorem en13 : EnP Try.prog 13 52 c13 r13 := mkEnP (by kernel_rfl) Try.func13 (by kernel_rfl) chk13

/-- `penelope/penelopelaw23.short` -/
def c7 : C :=
  (.seq
 (.reg false [p (.box 8 (.v 0)),
 p (.alloc 8 (.agg [.int .i64 0, .str [], .str [], .int .i64 0, .int .i64 0, .str [], .str [], .fsl .nil 4 []]))] [(1, .r 1), (2, .r 0)])
 (.seq
 (.reg true [p (.fad 1 (.v 1)),
 p (.load (none) (.r 0)),
 p (.fad 1 (.v 1)),
 p (.load (none) (.r 0)),
 p (.len true (.r 0)),
 p (.mnx false (.r 0) [.k (.int .i64 300)]),
 p (.sls (.r 4) none (some (.r 0))),
 p (.fad 2 (.v 1)),
 p (.load (none) (.r 0)),
 p (.fad 2 (.v 1)),
 p (.load (none) (.r 0)),
 p (.len true (.r 0)),
 p (.mnx false (.r 0) [.k (.int .i64 300)]),
 p (.sls (.r 4) none (some (.r 0))),
 p (.fad 5 (.v 1)),
 p (.load (none) (.r 0)),
 p (.fad 5 (.v 1)),
 p (.load (none) (.r 0)),
 p (.len true (.r 0)),
 p (.mnx false (.r 0) [.k (.int .i64 300)]),
 p (.sls (.r 4) none (some (.r 0))),
 p (.fad 1 (.v 1)),
 p (.store (none) (.r 0) (.r 15)),
 p (.fad 2 (.v 1)),
 p (.store (none) (.r 0) (.r 10)),
 p (.fad 5 (.v 1)),
 p (.store (none) (.r 0) (.r 5))] [(1, .v 1), (2, .v 2)])
 (.seq
 (.reg false [p (.bsl 4 []),
 p (.fad 6 (.v 1)),
 p (.fad 1 (.r 0)),
 p (.load (none) (.r 0)),
 p (.fad 6 (.v 1)),
 p (.fad 1 (.r 0)),
 p (.load (none) (.r 0)),
 p (.len false (.r 0)),
 p (.mnx false (.r 0) [.k (.int .i64 20)]),
 p (.slc 4 (.r 5) none (some (.r 0)) none),
 p (.app 4 48 (.r 9) (.r 0)),
 p (.fad 6 (.v 1)),
 p (.fad 1 (.r 0)),
 p (.store (none) (.r 0) (.r 2))] [(1, .v 1), (2, .v 2)])
 (.seq
 (.seq
 (.reg false [p (.fad 6 (.v 1)),
 p (.fad 1 (.r 0)),
 p (.load (none) (.r 0)),
 p (.len false (.r 0)),
 p (.mov (.k (.int .i64 0)))] [(1, .v 1), (2, .v 2), (44, .r 2), (45, .r 1), (46, .r 0)])
 (.block 0
 (.loop
 (.seq
 (.reg false [p (.bin .lss (.v 46) (.v 45))] [(1, .v 1), (2, .v 2), (44, .v 44), (45, .v 45), (46, .v 46), (47, .r 0)])
 (.seq
 (.cond (.v 47)
 .skip
 (.exit 0))
 (.seq
 (.block 1
 (.seq
 (.reg false [p (.mov (.v 46)),
 p (.iad 4 (.v 44) (.v 46)),
 p (.load (some 4) (.r 0)),
 p (.alloc 4 (.agg [.fsl .nil 1 [], .int .i64 0, .int .i64 0, .int .i64 0])),
 p (.mov (.r 3)),
 p (.store (some 4) (.r 1) (.r 2))] [(1, .v 1), (2, .v 2), (3, .r 1), (4, .r 2), (44, .v 44), (45, .v 45), (46, .v 46)])
 (.reg true [p (.fad 6 (.v 1)),
 p (.fad 1 (.r 0)),
 p (.load (none) (.r 0)),
 p (.mov (.v 3)),
 p (.fad 0 (.v 4)),
 p (.load (none) (.r 0)),
 p (.fad 0 (.v 4)),
 p (.load (none) (.r 0)),
 p (.len false (.r 0)),
 p (.mnx false (.r 0) [.k (.int .i64 20)]),
 p (.slc 1 (.r 4) none (some (.r 0)) none),
 p (.iad 4 (.r 8) (.r 7)),
 p (.fad 0 (.r 0)),
 p (.store (none) (.r 0) (.r 2))] [(1, .v 1), (2, .v 2), (44, .v 44), (45, .v 45), (46, .v 46)])))
 (.reg false [p (.bin .add (.v 46) (.k (.int .i64 1))),
 p (.mov (.r 0))] [(1, .v 1), (2, .v 2), (44, .v 44), (45, .v 45), (46, .r 0)])))))))
 (.frz
 (.seq
 (.reg false [p (.load (some 8) (.v 1)),
 p (.store (some 8) (.v 2) (.r 0))] [(2, .v 2)])
 .ret))))))
def r7 : List RV := [.c 2 (some 8)]
theorem chk7 : Chk Try.prog Try.f7 c7 r7 := ⟨_, rfl, by kernel_rfl, by kernel_rfl⟩
theorem en7 : EnP Try.prog 7 66 c7 r7 := mkEnP (by kernel_rfl) Try.func7 (by kernel_rfl) chk7

/-- `penelope/penelopelaw23.FrameCommands` -/
def c3 : C :=
  (.seq
 (.reg false [p (.box 8 (.v 0)),
 p (.mov (.k (.bool false)))] [(1, .v 1), (2, .r 1)])
 (.seq
 (.reg true [p (.load (some 8) (.v 2)),
 p (.call true (.k (.fn 7 [] [])) [.r 0]),
 p (.mov (.v 1)),
 p (.mov (.v 1)),
 p (.len true (.r 0)),
 p (.mnx false (.r 0) [.k (.int .i64 3000)]),
 p (.sls (.r 3) none (some (.r 0))),
 p (.store (some 8) (.v 2) (.r 5)),
 p (.mov (.r 1))] [(1, .r 0), (2, .v 2)])
 (.seq
 (.reg false [p (.load (some 8) (.v 2)),
 p (.call true (.k (.fn 8 [] [])) [.r 0]),
 p (.mov (.r 0)),
 p (.ext (.r 0) 0),
 p (.ext (.r 1) 1),
 p (.mov (.r 1)),
 p (.mov (.r 1))] [(1, .v 1), (2, .v 2), (5, .r 1), (6, .r 0)])
 (.seq
 (.reg false [p (.load (some 8) (.v 2)),
 p (.call true (.k (.fn 9 [] [])) [.r 0]),
 p (.mov (.r 0)),
 p (.ext (.r 0) 0),
 p (.ext (.r 1) 1),
 p (.mov (.r 1)),
 p (.mov (.r 1))] [(1, .v 1), (5, .v 5), (6, .v 6), (7, .r 1), (8, .r 0)])
 (.seq
 (.reg false [p (.mov (.v 1)),
 p (.call true (.k (.fn 10 [] [])) [.r 0]),
 p (.mov (.r 0)),
 p (.ext (.r 0) 0),
 p (.ext (.r 1) 1),
 p (.alloc 8 (.agg [.int .i64 0, .str [], .str [], .int .i64 0, .int .i64 0, .str [], .str [], .fsl .nil 4 []])),
 p (.store (some 8) (.r 0) (.r 2)),
 p (.mov (.r 2))] [(1, .v 1), (5, .v 5), (6, .v 6), (7, .v 7), (8, .v 8), (9, .r 2), (10, .r 0)])
 (.seq
 (.reg false [p (.mov (.v 1)),
 p (.call true (.k (.fn 11 [] [])) [.r 0]),
 p (.mov (.r 0)),
 p (.ext (.r 0) 0),
 p (.ext (.r 1) 1),
 p (.alloc 8 (.agg [.int .i64 0, .str [], .str [], .int .i64 0, .int .i64 0, .str [], .str [], .fsl .nil 4 []])),
 p (.store (some 8) (.r 0) (.r 2)),
 p (.mov (.r 2))] [(5, .v 5), (6, .v 6), (7, .v 7), (8, .v 8), (9, .v 9), (10, .v 10), (11, .r 2), (12, .r 0)])
 (.seq
 (.reg false [p (.call true (.k (.fn 12 [] [])) []),
 p (.mov (.r 0)),
 ⟨.mov (.v 5), some (0, true), []⟩,
 ⟨.mov (.v 7), some (1, true), []⟩,
 ⟨.bin .eql (.r 1) (.r 0), some (2, true), []⟩,
 p (.pick (.r 3) (.r 0) (.k (.bool false))),
 p (.mov (.r 0)),
 ⟨.mov (.v 6), some (0, true), []⟩,
 ⟨.mov (.v 8), some (1, true), []⟩,
 ⟨.bin .eql (.r 1) (.r 0), some (2, true), []⟩,
 p (.pick (.r 3) (.r 0) (.k (.bool false))),
 p (.mov (.r 0)),
 ⟨.load (some 8) (.v 9), some (0, true), []⟩,
 ⟨.load (some 8) (.v 11), some (1, true), []⟩,
 ⟨.call true (.k (.fn 13 [] [])) [.r 1, .r 0], some (2, true), []⟩,
 p (.pick (.r 3) (.r 0) (.k (.bool false))),
 p (.mov (.r 0)),
 ⟨.mov (.v 10), some (0, true), []⟩,
 ⟨.mov (.v 12), some (1, true), []⟩,
 ⟨.bin .eql (.r 1) (.r 0), some (2, true), []⟩,
 p (.pick (.r 3) (.r 0) (.k (.bool false))),
 p (.mov (.r 0))] [(4, .r 0)])
 .ret)))))))
def r3 : List RV := [.t 4]
theorem chk3 : Chk Try.prog Try.f3 c3 r3 := ⟨_, rfl, by kernel_rfl, by kernel_rfl⟩
theorem en3 : EnP Try.prog 3 61 c3 r3 := mkEnP (by kernel_rfl) Try.func3 (by kernel_rfl) chk3

/-- `penelope/penelopelaw23.FrameBack` -/
def c6 : C :=
  (.seq
 (.reg false [p (.box 8 (.v 0)),
 p (.box 6 (.v 1)),
 p (.mov (.k (.bool false)))] [(2, .v 2), (3, .r 2), (4, .r 1)])
 (.seq
 (.reg true [p (.load (some 8) (.v 3)),
 p (.call true (.k (.fn 7 [] [])) [.r 0]),
 p (.load (some 6) (.v 4)),
 p (.call true (.k (.fn 15 [] [])) [.r 0]),
 p (.mov (.v 2)),
 p (.mov (.v 2)),
 p (.len true (.r 0)),
 p (.mnx false (.r 0) [.k (.int .i64 3000)]),
 p (.sls (.r 3) none (some (.r 0))),
 p (.store (some 8) (.v 3) (.r 7)),
 p (.store (some 6) (.v 4) (.r 6)),
 p (.mov (.r 2))] [(2, .r 0), (3, .v 3), (4, .v 4)])
 (.seq
 (.seq
 (.reg false [p (.load (some 8) (.v 3)),
 p (.call true (.k (.fn 8 [] [])) [.r 0]),
 p (.mov (.r 0)),
 p (.ext (.r 0) 0),
 p (.ext (.r 1) 1),
 p (.mov (.r 1)),
 p (.mov (.r 1))] [(2, .v 2), (3, .v 3), (4, .v 4), (7, .r 1), (8, .r 0)])
 (.seq
 (.reg false [p (.mov (.v 8)),
 p (.bin .eql (.r 0) (.k (.int .i64 0)))] [(2, .v 2), (3, .v 3), (4, .v 4), (7, .v 7), (38, .r 0)])
 (.cond (.v 38)
 (.seq
 (.reg false [p (.mov (.v 7)),
 p (.call true (.k (.fn 10 [] [])) [.r 0]),
 p (.mov (.r 0)),
 p (.ext (.r 0) 0),
 p (.ext (.r 1) 1),
 p (.alloc 8 (.agg [.int .i64 0, .str [], .str [], .int .i64 0, .int .i64 0, .str [], .str [], .fsl .nil 4 []])),
 p (.store (some 8) (.r 0) (.r 2)),
 p (.mov (.r 2))] [(2, .v 2), (3, .v 3), (4, .v 4), (9, .r 2), (10, .r 0)])
 (.seq
 (.reg false [p (.mov (.v 10)),
 p (.bin .neq (.r 0) (.k (.int .i64 0))),
 p (.mov (.r 0)),
 ⟨.load (some 8) (.v 9), some (0, false), []⟩,
 ⟨.load (some 8) (.v 3), some (1, false), []⟩,
 ⟨.call true (.k (.fn 13 [] [])) [.r 1, .r 0], some (2, false), []⟩,
 ⟨.un .not (.r 0), some (3, false), []⟩,
 p (.pick (.r 4) (.k (.bool true)) (.r 0))] [(2, .v 2), (4, .v 4), (51, .r 0)])
 (.cond (.v 51)
 (.seq
 (.reg false [p (.mov (.k (.bool false)))] [(6, .r 0)])
 .ret)
 .skip)))
 .skip)))
 (.seq
 (.seq
 (.reg false [p (.load (some 6) (.v 4)),
 p (.call true (.k (.fn 16 [] [])) [.r 0]),
 p (.mov (.r 0)),
 p (.ext (.r 0) 0),
 p (.ext (.r 1) 1),
 p (.mov (.r 1)),
 p (.mov (.r 1))] [(2, .v 2), (4, .v 4), (11, .r 1), (12, .r 0)])
 (.seq
 (.reg false [p (.mov (.v 12)),
 p (.bin .eql (.r 0) (.k (.int .i64 0)))] [(2, .v 2), (4, .v 4), (11, .v 11), (58, .r 0)])
 (.cond (.v 58)
 (.seq
 (.reg false [p (.mov (.v 11)),
 p (.call true (.k (.fn 18 [] [])) [.r 0]),
 p (.mov (.r 0)),
 p (.ext (.r 0) 0),
 p (.ext (.r 1) 1),
 p (.alloc 6 (.agg [.int .i64 0, .str [], .int .i64 0, .int .i64 0, .int .i64 0, .fsl .nil 5 []])),
 p (.store (some 6) (.r 0) (.r 2)),
 p (.mov (.r 2))] [(2, .v 2), (4, .v 4), (13, .r 2), (14, .r 0)])
 (.seq
 (.reg false [p (.mov (.v 14)),
 p (.bin .neq (.r 0) (.k (.int .i64 0))),
 p (.mov (.r 0)),
 ⟨.load (some 6) (.v 13), some (0, false), []⟩,
 ⟨.load (some 6) (.v 4), some (1, false), []⟩,
 ⟨.call true (.k (.fn 20 [] [])) [.r 1, .r 0], some (2, false), []⟩,
 ⟨.un .not (.r 0), some (3, false), []⟩,
 p (.pick (.r 4) (.k (.bool true)) (.r 0))] [(2, .v 2), (71, .r 0)])
 (.cond (.v 71)
 (.seq
 (.reg false [p (.mov (.k (.bool false)))] [(6, .r 0)])
 .ret)
 .skip)))
 .skip)))
 (.seq
 (.seq
 (.reg false [p (.mov (.v 2)),
 p (.call true (.k (.fn 10 [] [])) [.r 0]),
 p (.mov (.r 0)),
 p (.ext (.r 0) 0),
 p (.ext (.r 1) 1),
 p (.alloc 8 (.agg [.int .i64 0, .str [], .str [], .int .i64 0, .int .i64 0, .str [], .str [], .fsl .nil 4 []])),
 p (.store (some 8) (.r 0) (.r 2)),
 p (.mov (.r 2))] [(2, .v 2), (15, .r 2), (16, .r 0)])
 (.seq
 (.reg false [p (.mov (.v 16)),
 p (.bin .eql (.r 0) (.k (.int .i64 0)))] [(2, .v 2), (15, .v 15), (78, .r 0)])
 (.cond (.v 78)
 (.seq
 (.reg false [p (.load (some 8) (.v 15)),
 p (.call true (.k (.fn 8 [] [])) [.r 0]),
 p (.mov (.r 0)),
 p (.ext (.r 0) 0),
 p (.ext (.r 1) 1),
 p (.mov (.r 1)),
 p (.mov (.r 1))] [(2, .v 2), (17, .r 1), (18, .r 0)])
 (.seq
 (.reg false [p (.mov (.v 18)),
 p (.bin .neq (.r 0) (.k (.int .i64 0))),
 p (.mov (.r 0)),
 ⟨.mov (.v 17), some (0, false), []⟩,
 ⟨.mov (.v 2), some (1, false), []⟩,
 ⟨.bin .neq (.r 1) (.r 0), some (2, false), []⟩,
 p (.pick (.r 3) (.k (.bool true)) (.r 0))] [(2, .v 2), (90, .r 0)])
 (.cond (.v 90)
 (.seq
 (.reg false [p (.mov (.k (.bool false)))] [(6, .r 0)])
 .ret)
 .skip)))
 .skip)))
 (.seq
 (.reg false [p (.mov (.v 2)),
 p (.call true (.k (.fn 18 [] [])) [.r 0]),
 p (.mov (.r 0)),
 p (.ext (.r 0) 0),
 p (.ext (.r 1) 1),
 p (.alloc 6 (.agg [.int .i64 0, .str [], .int .i64 0, .int .i64 0, .int .i64 0, .fsl .nil 5 []])),
 p (.store (some 6) (.r 0) (.r 2)),
 p (.mov (.r 2))] [(2, .v 2), (19, .r 2), (20, .r 0)])
 (.seq
 (.seq
 (.reg false [p (.mov (.v 20)),
 p (.bin .neq (.r 0) (.k (.int .i64 0)))] [(2, .v 2), (19, .v 19), (97, .r 0)])
 (.cond (.v 97)
 (.seq
 (.reg false [p (.call true (.k (.fn 12 [] [])) []),
 p (.mov (.r 0)),
 ⟨.load (some 6) (.v 19), some (0, true), []⟩,
 ⟨.build [.int .i64 0, .str [], .int .i64 0, .int .i64 0, .int .i64 0, .fsl .nil 5 []] [], some (1, true), []⟩,
 ⟨.call true (.k (.fn 20 [] [])) [.r 1, .r 0], some (2, true), []⟩,
 p (.pick (.r 3) (.r 0) (.k (.bool false))),
 p (.mov (.r 0))] [(6, .r 0)])
 .ret)
 .skip))
 (.seq
 (.reg false [p (.load (some 6) (.v 19)),
 p (.call true (.k (.fn 16 [] [])) [.r 0]),
 p (.mov (.r 0)),
 p (.ext (.r 0) 0),
 p (.ext (.r 1) 1),
 p (.mov (.r 1)),
 p (.mov (.r 1))] [(2, .v 2), (21, .r 1), (22, .r 0)])
 (.seq
 (.reg false [p (.call true (.k (.fn 12 [] [])) []),
 p (.mov (.r 0)),
 ⟨.mov (.v 22), some (0, true), []⟩,
 ⟨.bin .eql (.r 0) (.k (.int .i64 0)), some (1, true), []⟩,
 p (.pick (.r 2) (.r 0) (.k (.bool false))),
 p (.mov (.r 0)),
 ⟨.mov (.v 21), some (0, true), []⟩,
 ⟨.mov (.v 2), some (1, true), []⟩,
 ⟨.bin .eql (.r 1) (.r 0), some (2, true), []⟩,
 p (.pick (.r 3) (.r 0) (.k (.bool false))),
 p (.mov (.r 0))] [(6, .r 0)])
 .ret)))))))))
def r6 : List RV := [.t 6]
theorem chk6 : Chk Try.prog Try.f6 c6 r6 := ⟨_, rfl, by kernel_rfl, by kernel_rfl⟩
theorem en6 : EnP Try.prog 6 119 c6 r6 := mkEnP (by kernel_rfl) Try.func6 (by kernel_rfl) chk6


end Go.Proofs.Ytjlpmndipceboaa.Ev
end
section
set_option linter.unusedSimpArgs false
set_option linter.unusedVariables false
set_option maxRecDepth 10000
namespace Go.Proofs.Ytjlpmndipceboaa.Ev
open Go

/-- A row that a loop lets grow: nothing yet, or an own block that does not lie below lo. -/
def Gro (lo n : Nat) (m : Hm) (sz : Nat) (v : V) (l : List V) : Prop :=
  (∃ st, (st ≠ .loose ∧ st ≠ .nn) ∧ v = .fsl st sz [] ∧ l = []) ∨ ∃ id, lo ≤ id ∧ id < n ∧ v = .sl id 0 l.length ∧ m id = some (.arr sz l)
theorem Gro.nil {lo n : Nat} {m : Hm} {sz : Nat} : Gro lo n m sz (.fsl .nil sz []) [] := .inl ⟨.nil, by decide, rfl, rfl⟩
theorem Gro.full {lo n : Nat} {m : Hm} {sz : Nat} : Gro lo n m sz (.fsl .full sz []) [] := .inl ⟨.full, by decide, rfl, rfl⟩
theorem Gro.keep {lo n n' : Nat} {m m' : Hm} {sz : Nat} {v : V} {l : List V} (h : Gro lo n m sz v l) (hn : n ≤ n') (hm : ∀ id, lo ≤ id → id < n → m' id = m id) : Gro lo n' m' sz v l := by
  rcases h with h | ⟨id, h1, h2, h3, h4⟩
  · exact .inl h
  · exact .inr ⟨id, h1, by omega, h3, by rw [hm id h1 h2]; exact h4⟩
theorem Gro.down {lo lo' n : Nat} {m : Hm} {sz : Nat} {v : V} {l : List V} (h : Gro lo n m sz v l) (hl : lo' ≤ lo) : Gro lo' n m sz v l := by
  rcases h with h | ⟨id, h1, h2, h3, h4⟩
  · exact .inl h
  · exact .inr ⟨id, by omega, h2, h3, h4⟩
theorem Gro.rd {lo n : Nat} {m : Hm} {sz : Nat} {v : V} {l : List V} (h : Gro lo n m sz v l) : rd m v = some (sz, l) := by
  rcases h with ⟨st, _, rfl, rfl⟩ | ⟨id, h1, h2, rfl, h3⟩
  · rfl
  · simp [Ev.rd, h3]
theorem Gro.cell {lo n : Nat} {m : Hm} {sz : Nat} {v : V} {l : List V} (h : Gro lo n m sz v l) : v.cell = true := by
  rcases h with ⟨st, _, rfl, rfl⟩ | ⟨id, h1, h2, rfl, h3⟩ <;> rfl

theorem app_gro {lo : Nat} {H : Hp} {sz bt : Nat} {v y : V} {l ys : List V} {K : KI} (h : Gro lo H.n H.m sz v l) (hlo : lo ≤ H.n) (hy : Ev.rd H.m y = some (sz, ys)) (hne : ys ≠ []) (hl : (l.length + ys.length) * bt ≤ 140737488355328)
    (k : ∀ v' fp ds, Gro lo (H.n + 1) (appd ds H.m) sz v' (l ++ ys) → (∀ id, id < lo → appd ds H.m id = H.m id) → (∀ id, id < H.n → (∀ o n, v ≠ .sl id o n) → appd ds H.m id = H.m id) → K v' fp ds 1) : fin (appO H sz bt v y) K := by
  have e : (l ++ ys).length = l.length + ys.length := List.length_append
  unfold appO
  rw [hy]
  rcases h with ⟨st, h0, rfl, rfl⟩ | ⟨id, h1, h1', rfl, h2⟩
  · cases ys with
    | nil => exact absurd rfl hne
    | cons a ys =>
      refine ⟨⟨rfl, rfl, h0, by simpa using hl⟩, k _ _ _ (.inr ⟨H.n, hlo, by simp, by simp, by simp [appd, upd]⟩) (fun id hid => ?_) fun id hid _ => ?_⟩
      · have : id ≠ H.n := by omega
        simp [appd, upd, this]
      · have : id ≠ H.n := by omega
        simp [appd, upd, this]
  · simp only [h2]
    refine ⟨⟨trivial, trivial, trivial, Nat.le_refl _, hl⟩, k _ _ _ (.inr ⟨H.n, hlo, by simp, by simp, by simp [appd, upd]⟩) (fun i hid => ?_) fun i hid hv => ?_⟩
    · have h3 : i ≠ H.n := by omega
      have h4 : i ≠ id := by omega
      simp [appd, upd, h3, h4]
    · have h3 : i ≠ H.n := by omega
      have h4 : i ≠ id := fun e => hv 0 l.length (by rw [e])
      simp [appd, upd, h3, h4]

/-- What is frozen, and what it is then. -/
theorem Gro.frz {lo n : Nat} {m : Hm} {sz : Nat} {v : V} {l : List V} (h : Gro lo n m sz v l) (hc : closedL l = true) : ∃ fz st, (∀ id ∈ fz, lo ≤ id ∧ id < n) ∧ (∀ k, snap (k + 1) (only fz m) v = some (.fsl st sz l)) ∧ frzV fz m v = .fsl st sz l := by
  have fin : ∀ {fz st}, (∀ k, snap (k + 1) (only fz m) v = some (.fsl st sz l)) → frzV fz m v = .fsl st sz l := fun hk => by simp only [frzV, hk 3]
  rcases h with ⟨st, h0, rfl, rfl⟩ | ⟨id, h1, h1', rfl, h2⟩
  · have := fun k => snap_cl (n := k + 1) (m := only [] m) (v := .fsl st sz []) rfl
    exact ⟨[], st, by simp, this, fin this⟩
  · have := fun k => snap_sl (n := k) (m := only [id] m) (id := id) (sz := sz) (l := l) (by simp [only, h2]) hc rfl
    exact ⟨[id], .loose, by simp; omega, this, fin this⟩
theorem mapO_app {f : V → Option V} {a b a' b' : List V} (ha : mapO f a = some a') (hb : mapO f b = some b') : mapO f (a ++ b) = some (a' ++ b') := by
  induction a generalizing a' with
  | nil => simp [mapO] at ha; subst ha; simpa using hb
  | cons x a ih =>
    simp only [mapO] at ha
    split at ha
    · rename_i u hu
      split at ha
      · rename_i us hus
        simp at ha; subst ha
        simp [mapO, hu, ih hus]
      · cases ha
    · cases ha
theorem mapO_bad {f : V → Option V} {a b : List V} {v : V} (hv : f v = none) : mapO f (a ++ v :: b) = none := by
  induction a with
  | nil => simp [mapO, hv]
  | cons x a ih => simp only [List.cons_append, mapO, ih]; split <;> rfl
/-- A structure with a row in it, frozen. -/
theorem frzV_mid {fz : List Nat} {m : Hm} {pre post : List V} {v u : V} (h : ∀ k, snap (k + 1) (only fz m) v = some u) (h1 : closedL pre = true) (h2 : closedL post = true) : frzV fz m (.agg (pre ++ v :: post)) = .agg (pre ++ u :: post) := by
  have hp : mapO (snap 3 (only fz m)) (pre ++ v :: post) = some (pre ++ u :: post) := mapO_app (mapO_closed h1) (by simp [mapO, h 2, mapO_closed h2])
  simp only [frzV, snap_agg hp]
/-- A structure with a row in it that is not frozen. -/
theorem Gro.frz_keep {lo n : Nat} {m : Hm} {sz : Nat} {v : V} {l : List V} {fz : List Nat} {pre post : List V} (h : Gro lo n m sz v l) (hf : ∀ id ∈ fz, id < lo ∨ n ≤ id) (h1 : closedL pre = true) (h2 : closedL post = true) :
    frzV fz m (.agg (pre ++ v :: post)) = .agg (pre ++ v :: post) := by
  rcases h with ⟨st, h0, rfl, rfl⟩ | ⟨id, k1, k2, rfl, k3⟩
  · refine frz_c ?_
    simp only [V.closed]
    rw [closedL_iff] at h1 h2 ⊢
    intro x hx
    rcases List.mem_append.1 hx with hx | hx
    · exact h1 x hx
    · rcases List.mem_cons.1 hx with rfl | hx
      · rfl
      · exact h2 x hx
  · have hn : id ∉ fz := fun hx => by have := hf id hx; omega
    have hs : ∀ k, snap (k + 1) (only fz m) (.sl id 0 l.length) = none := fun k => by
      rw [snap, if_neg (by simp [V.closed])]; simp [only, hn]
    have hc : V.closed (.agg (pre ++ .sl id 0 l.length :: post)) = false := by
      simp only [V.closed]
      cases hx : closedL (pre ++ .sl id 0 l.length :: post) with
      | false => rfl
      | true => exact absurd (closedL_iff.1 hx (.sl id 0 l.length) (by simp)) (by simp [V.closed])
    have hp : snap 4 (only fz m) (.agg (pre ++ .sl id 0 l.length :: post)) = none := by
      rw [snap, if_neg (by rw [hc]; simp)]
      simp only [mapO_bad (hs 2)]
    simp only [frzV, hp]

/-- Objects of an own heap behind freezing and loosening. -/
theorem frl_get {fz ids : List Nat} {m : Hm} {id sz : Nat} {l : List V} (h : m id = some (.arr sz l)) (hn : id ∉ fz) (hi : id ∉ ids) : loH ids (frzH fz m) id = some (.arr sz (l.map (frzV fz m))) := by
  simp [loH, hi, frzH, hn, h, frzO]
theorem frl_lo {fz ids : List Nat} {m : Hm} {id sz : Nat} {l : List V} (h : m id = some (.arr sz l)) (hn : id ∉ fz) (hi : id ∈ ids) : loH ids (frzH fz m) id = some (.arr sz (loL (l.map (frzV fz m)))) := by
  simp [loH, hi, frzH, hn, h, frzO, loO]
theorem map_frz {fz : List Nat} {m : Hm} {l : List V} (h : closedL l = true) : l.map (frzV fz m) = l := by
  rw [closedL_iff] at h
  exact (List.map_congr_left fun v hv => frz_c (h v hv)).trans (List.map_id _)
theorem frl_cl {fz ids : List Nat} {m : Hm} {id sz : Nat} {l : List V} (h : m id = some (.arr sz l)) (hc : closedL l = true) (hn : id ∉ fz) (hi : id ∉ ids) : loH ids (frzH fz m) id = some (.arr sz l) := by
  rw [frl_get h hn hi, map_frz hc]
theorem Gro.frl {lo n n' : Nat} {m : Hm} {sz : Nat} {v : V} {l : List V} {fz ids : List Nat} (h : Gro lo n m sz v l) (hc : closedL l = true) (hn : n ≤ n') (hf : ∀ id ∈ fz, id < lo ∨ n ≤ id) (hi : ∀ id ∈ ids, id < lo ∨ n ≤ id) : Gro lo n' (loH ids (frzH fz m)) sz v l := by
  rcases h with h | ⟨id, h1, h2, h3, h4⟩
  · exact .inl h
  · exact .inr ⟨id, h1, by omega, h3, frl_cl h4 hc (fun hx => by have := hf id hx; omega) (fun hx => by have := hi id hx; omega)⟩

end Go.Proofs.Ytjlpmndipceboaa.Ev
end
section
set_option linter.unusedSimpArgs false
namespace Go.Proofs.Ytjlpmndipceboaa.Ev
open Go
/-- `penelope/peneloperef02.Turned` -/
def c14 : C :=
  (.seq
 (.reg false [p (.mov (.k (.str [])))] [(0, .v 0), (1, .v 1), (2, .v 2)])
 (.seq
 (.reg false [p (.mov (.v 0)),
 p (.sto (.r 0)),
 p (.mov (.r 0))] [(1, .v 1), (2, .v 2), (7, .r 0)])
 (.seq
 (.seq
 (.reg false [p (.mov (.k (.int .i64 0)))] [(1, .v 1), (2, .v 2), (7, .v 7), (8, .r 0)])
 (.block 0
 (.loop
 (.seq
 (.seq
 (.reg false [p (.mov (.v 8)),
 p (.bin .lss (.r 0) (.k (.int .i64 32)))] [(1, .v 1), (2, .v 2), (7, .v 7), (8, .v 8), (13, .r 0)])
 (.cond (.v 13)
 .skip
 (.exit 0)))
 (.seq
 (.block 1
 (.seq
 (.reg false [p (.mov (.v 1)),
 p (.mov (.v 8)),
 p (.bin .add (.r 1) (.r 0)),
 p (.mov (.r 0))] [(1, .v 1), (2, .v 2), (7, .v 7), (8, .v 8), (9, .r 0)])
 (.seq
 (.reg false [p (.mov (.v 9)),
 p (.bin .geq (.r 0) (.k (.int .i64 0))),
 p (.mov (.r 0)),
 ⟨.mov (.v 9), some (0, true), []⟩,
 ⟨.mov (.v 7), some (1, true), []⟩,
 ⟨.len false (.r 0), some (2, true), []⟩,
 ⟨.bin .mul (.k (.int .i64 8)) (.r 0), some (3, true), []⟩,
 ⟨.bin .lss (.r 3) (.r 0), some (4, true), []⟩,
 p (.pick (.r 5) (.r 0) (.k (.bool false))),
 p (.mov (.r 0)),
 ⟨.mov (.v 2), some (0, true), []⟩,
 ⟨.mov (.v 8), some (1, true), []⟩,
 ⟨.cvt .u64 (.r 0), some (2, true), []⟩,
 ⟨.bin .shr (.r 2) (.r 0), some (3, true), []⟩,
 ⟨.bin .rem (.r 0) (.k (.int .u32 2)), some (4, true), []⟩,
 ⟨.bin .eql (.r 0) (.k (.int .u32 1)), some (5, true), []⟩,
 p (.pick (.r 6) (.r 0) (.k (.bool false)))] [(1, .v 1), (2, .v 2), (7, .v 7), (8, .v 8), (9, .v 9), (35, .r 0)])
 (.cond (.v 35)
 (.reg false [p (.mov (.v 7)),
 p (.mov (.v 9)),
 p (.bin .quo (.r 0) (.k (.int .i64 8))),
 p (.mov (.v 7)),
 p (.mov (.v 9)),
 p (.bin .quo (.r 0) (.k (.int .i64 8))),
 p (.iad 1 (.r 2) (.r 0)),
 p (.load (none) (.r 0)),
 p (.mov (.v 9)),
 p (.bin .rem (.r 0) (.k (.int .i64 8))),
 p (.cvt .u64 (.r 0)),
 p (.bin .shl (.k (.int .u8 1)) (.r 0)),
 p (.bin .xor (.r 4) (.r 0)),
 p (.iad 1 (.r 12) (.r 10)),
 p (.store (none) (.r 0) (.r 1))] [(1, .v 1), (2, .v 2), (7, .v 7), (8, .v 8)])
 .skip))))
 (.reg false [p (.mov (.v 8)),
 p (.bin .add (.r 0) (.k (.int .i64 1))),
 p (.mov (.r 0))] [(1, .v 1), (2, .v 2), (7, .v 7), (8, .r 0)]))))))
 (.frz
 (.seq
 (.reg false [p (.mov (.v 7)),
 p (.bts (.r 0)),
 p (.mov (.r 0))] [(6, .r 0)])
 .ret)))))
def r14 : List RV := [.t 6]
theorem chk14 : Chk Try.prog Try.f14 c14 r14 := ⟨_, rfl, by kernel_rfl, by kernel_rfl⟩
theorem en14 : EnP Try.prog 14 52 c14 r14 := mkEnP (by kernel_rfl) Try.func14 (by kernel_rfl) chk14

/-- `penelope/penelopelaw23.FrameTurned` -/
def c4 : C :=
  (.seq
 (.reg false [p (.box 8 (.v 0)),
 p (.mov (.k (.bool false)))] [(1, .v 1), (2, .v 2), (3, .r 1)])
 (.seq
 (.reg false [p (.load (some 8) (.v 3)),
 p (.call true (.k (.fn 7 [] [])) [.r 0]),
 p (.call true (.k (.fn 8 [] [])) [.r 0]),
 p (.mov (.r 0)),
 p (.ext (.r 0) 0),
 p (.ext (.r 1) 1),
 p (.mov (.r 1)),
 p (.mov (.r 1))] [(1, .v 1), (2, .v 2), (7, .r 1), (8, .r 0)])
 (.seq
 (.seq
 (.reg false [p (.mov (.v 8)),
 p (.bin .neq (.r 0) (.k (.int .i64 0)))] [(1, .v 1), (2, .v 2), (7, .v 7), (20, .r 0)])
 (.cond (.v 20)
 (.seq
 (.reg false [p (.call true (.k (.fn 12 [] [])) []),
 p (.mov (.r 0)),
 ⟨.mov (.v 7), some (0, true), []⟩,
 ⟨.bin .eql (.r 0) (.k (.str [])), some (1, true), []⟩,
 p (.pick (.r 2) (.r 0) (.k (.bool false))),
 p (.mov (.r 0))] [(6, .r 0)])
 .ret)
 .skip))
 (.seq
 (.seq
 (.reg false [p (.mov (.v 7)),
 p (.len true (.r 0)),
 p (.bin .eql (.r 0) (.k (.int .i64 0)))] [(1, .v 1), (2, .v 2), (7, .v 7), (28, .r 0)])
 (.cond (.v 28)
 (.seq
 (.reg false [p (.mov (.k (.bool false)))] [(6, .r 0)])
 .ret)
 .skip))
 (.seq
 (.reg false [p (.mov (.v 7)),
 p (.len true (.r 0)),
 p (.bin .mul (.k (.int .i64 8)) (.r 0)),
 p (.mov (.r 0))] [(1, .v 1), (2, .v 2), (7, .v 7), (9, .r 0)])
 (.seq
 (.reg false [p (.mov (.v 7)),
 p (.mov (.v 1)),
 p (.mov (.v 9)),
 p (.bin .rem (.r 1) (.r 0)),
 p (.mov (.v 9)),
 p (.bin .add (.r 1) (.r 0)),
 p (.mov (.v 9)),
 p (.bin .rem (.r 1) (.r 0)),
 p (.mov (.v 2)),
 p (.call true (.k (.fn 14 [] [])) [.r 8, .r 1, .r 0]),
 p (.mov (.r 0))] [(7, .v 7), (10, .r 0)])
 (.seq
 (.reg false [p (.mov (.v 10)),
 p (.call true (.k (.fn 10 [] [])) [.r 0]),
 p (.mov (.r 0)),
 p (.ext (.r 0) 0),
 p (.ext (.r 1) 1),
 p (.alloc 8 (.agg [.int .i64 0, .str [], .str [], .int .i64 0, .int .i64 0, .str [], .str [], .fsl .nil 4 []])),
 p (.store (some 8) (.r 0) (.r 2)),
 p (.mov (.r 2))] [(7, .v 7), (10, .v 10), (12, .r 0)])
 (.seq
 (.reg false [p (.call true (.k (.fn 12 [] [])) []),
 p (.mov (.r 0)),
 ⟨.mov (.v 12), some (0, true), []⟩,
 ⟨.bin .eql (.r 0) (.k (.int .i64 0)), some (1, true), []⟩,
 ⟨.mov (.v 10), some (2, true), []⟩,
 ⟨.mov (.v 7), some (3, true), []⟩,
 ⟨.bin .eql (.r 1) (.r 0), some (4, true), []⟩,
 ⟨.eqb false (.r 3) (.r 0), some (5, true), []⟩,
 p (.pick (.r 6) (.r 0) (.k (.bool false))),
 p (.mov (.r 0))] [(6, .r 0)])
 .ret))))))))
def r4 : List RV := [.t 6]
theorem chk4 : Chk Try.prog Try.f4 c4 r4 := ⟨_, rfl, by kernel_rfl, by kernel_rfl⟩
theorem en4 : EnP Try.prog 4 56 c4 r4 := mkEnP (by kernel_rfl) Try.func4 (by kernel_rfl) chk4


end Go.Proofs.Ytjlpmndipceboaa.Ev
end
section
set_option maxRecDepth 100000
namespace Go.Proofs.Ytjlpmndipceboaa.Ev
open Go
def ren_join : Go.Shelf.Ren := ⟨fun x => match x with | 156 => 55 | 165 => 77 | 166 => 78 | 169 => 79 | 240 => 85 | 241 => 86 | 276 => 90 | 277 => 91 | n => n, fun x => match x with | 31 => 92 | 9 => 9 | 3 => 3 | 4 => 4 | 0 => 0 | 20 => 20 | 72 => 113 | 76 => 117 | 70 => 111 | 37 => 78 | 75 => 116 | 127 => 123 | 164 => 125 | 5 => 5 | 80 => 70 | n => n, fun x => match x with | n => n⟩
theorem lays_join : Lays.n156 Try.prog ren_join where
  mixed := by kernel_rfl
  f156 := Try.func55.trans (congrArg some (by kernel_rfl))
  f165 := Try.func77.trans (congrArg some (by kernel_rfl))
  f166 := Try.func78.trans (congrArg some (by kernel_rfl))
  f169 := Try.func79.trans (congrArg some (by kernel_rfl))
  f240 := Try.func85.trans (congrArg some (by kernel_rfl))
  f241 := Try.func86.trans (congrArg some (by kernel_rfl))
  f276 := Try.func90.trans (congrArg some (by kernel_rfl))
  f277 := Try.func91.trans (congrArg some (by kernel_rfl))
  t0 := Try.underlying0
  a0 := Try.isAgg0
  z0 := Try.sizeOf0
  v0 := Try.zeroValue0
  t3 := Try.underlying3
  a3 := Try.isAgg3
  z3 := Try.sizeOf3
  v3 := Try.zeroValue3
  t4 := Try.underlying4
  a4 := Try.isAgg4
  z4 := Try.sizeOf4
  v4 := Try.zeroValue4
  t9 := Try.underlying9
  a9 := Try.isAgg9
  z9 := Try.sizeOf9
  v9 := Try.zeroValue9
  t20 := Try.underlying20
  a20 := Try.isAgg20
  z20 := Try.sizeOf20
  v20 := Try.zeroValue20
  t31 := Try.underlying92
  a31 := Try.isAgg92
  z31 := Try.sizeOf92
  v31 := Try.zeroValue92
  t37 := Try.underlying78
  a37 := Try.isAgg78
  z37 := Try.sizeOf78
  v37 := Try.zeroValue78
  t70 := Try.underlying111
  a70 := Try.isAgg111
  z70 := Try.sizeOf111
  v70 := Try.zeroValue111
  t72 := Try.underlying113
  a72 := Try.isAgg113
  z72 := Try.sizeOf113
  v72 := Try.zeroValue113
  t75 := Try.underlying116
  a75 := Try.isAgg116
  z75 := Try.sizeOf116
  v75 := Try.zeroValue116
  t76 := Try.underlying117
  a76 := Try.isAgg117
  z76 := Try.sizeOf117
  v76 := Try.zeroValue117
  t127 := Try.underlying123
  a127 := Try.isAgg123
  z127 := Try.sizeOf123
  v127 := Try.zeroValue123
  t164 := Try.underlying125
  a164 := Try.isAgg125
  z164 := Try.sizeOf125
  v164 := Try.zeroValue125
theorem lays1_join : Builder.Extra Try.prog ren_join where
  sizeBuilder := by kernel_rfl
  liesBuilder := by kernel_rfl
  t5 := Try.underlying5
  a5 := Try.isAgg5
  z5 := Try.sizeOf5
  v5 := Try.zeroValue5
  infoByte := by kernel_rfl
  cellsByte := by kernel_rfl
  sizeByte := by kernel_rfl
  neB5 := by decide
end Go.Proofs.Ytjlpmndipceboaa.Ev
end
section
set_option linter.unusedSimpArgs false
set_option linter.unusedVariables false
namespace Go.Proofs.Ytjlpmndipceboaa.Ev
open Go

abbrev Str := List UInt8
structure Task where
  needs : List Int
  tries : Int
  wait : Int
  lease : Int
structure Dag where
  name : Str
  tasks : List Task
structure Stt where
  is : Int
  tried : Int
  due : Int
  token : Int
  result : Str
structure Rn where
  key : Str
  dag : Dag
  is : Int
  states : List Stt
structure Wd where
  now : Int
  token : Int
  dags : List Dag
  runs : List Rn
structure Cmd where
  kind : Int
  key : Str
  name : Str
  token : Int
  time : Int
  text : Str
  dag : Dag
structure Ans where
  why : Int
  key : Str
  task : Int
  token : Int
  is : Int
  states : List Stt

def vI (l : List Int) : List V := mv (V.int .i64) l
def vB (l : List Bool) : List V := mv V.bool l
def vS (l : List Str) : List V := mv V.str l
def taskV (t : Task) : V := .agg [.fsl .loose 1 (vI t.needs), .int .i64 t.tries, .int .i64 t.wait, .int .i64 t.lease]
def tasksV (l : List Task) : V := .fsl .loose 4 (mv taskV l)
def dagV (d : Dag) : V := .agg [.str d.name, tasksV d.tasks]
def sttV (s : Stt) : V := .agg [.int .i64 s.is, .int .i64 s.tried, .int .i64 s.due, .int .i64 s.token, .str s.result]
def sttsV (l : List Stt) : V := .fsl .loose 5 (mv sttV l)
def rnV (r : Rn) : V := .agg [.str r.key, .str r.dag.name, tasksV r.dag.tasks, .int .i64 r.is, sttsV r.states]
def wdV (w : Wd) : V := .agg [.int .i64 w.now, .int .i64 w.token, .fsl .loose 2 (mv dagV w.dags), .fsl .loose 5 (mv rnV w.runs)]
def cmdV (c : Cmd) : V := .agg [.int .i64 c.kind, .str c.key, .str c.name, .int .i64 c.token, .int .i64 c.time, .str c.text, .str c.dag.name, tasksV c.dag.tasks]
def ansV (a : Ans) : V := .agg [.int .i64 a.why, .str a.key, .int .i64 a.task, .int .i64 a.token, .int .i64 a.is, sttsV a.states]

section
variable {l : List Int}
theorem vI_closed : closedL (vI l) = true := mv_closed fun _ => rfl
theorem vB_closed {l : List Bool} : closedL (vB l) = true := mv_closed fun _ => rfl
theorem vS_closed {l : List Str} : closedL (vS l) = true := mv_closed fun _ => rfl
theorem vI_lo : loL (vI l) = vI l := mv_lo fun _ => by rw [lo]
theorem vB_lo {l : List Bool} : loL (vB l) = vB l := mv_lo fun _ => by rw [lo]
theorem vS_lo {l : List Str} : loL (vS l) = vS l := mv_lo fun _ => by rw [lo]
end
theorem taskV_closed (t : Task) : (taskV t).closed = true := by simp [taskV, V.closed, closedL, vI_closed]
theorem taskV_lo (t : Task) : lo (taskV t) = taskV t := by simp [taskV, lo, loL, vI_lo]
theorem tasksV_closed (l : List Task) : (tasksV l).closed = true := by simp [tasksV, V.closed, mv_closed taskV_closed]
theorem tasksV_lo (l : List Task) : lo (tasksV l) = tasksV l := by simp [tasksV, lo, mv_lo taskV_lo]
theorem dagV_closed (d : Dag) : (dagV d).closed = true := by simp [dagV, V.closed, closedL, tasksV_closed]
theorem dagV_lo (d : Dag) : lo (dagV d) = dagV d := by simp [dagV, lo, loL, tasksV_lo]
theorem sttV_closed (s : Stt) : (sttV s).closed = true := by simp [sttV, V.closed, closedL]
theorem sttV_lo (s : Stt) : lo (sttV s) = sttV s := by simp [sttV, lo, loL]
theorem sttsV_closed (l : List Stt) : (sttsV l).closed = true := by simp [sttsV, V.closed, mv_closed sttV_closed]
theorem sttsV_lo (l : List Stt) : lo (sttsV l) = sttsV l := by simp [sttsV, lo, mv_lo sttV_lo]
theorem rnV_closed (r : Rn) : (rnV r).closed = true := by simp [rnV, V.closed, closedL, tasksV_closed, sttsV_closed]
theorem rnV_lo (r : Rn) : lo (rnV r) = rnV r := by simp [rnV, lo, loL, tasksV_lo, sttsV_lo]
theorem wdV_closed (w : Wd) : (wdV w).closed = true := by simp [wdV, V.closed, closedL, mv_closed dagV_closed, mv_closed rnV_closed]
theorem wdV_lo (w : Wd) : lo (wdV w) = wdV w := by simp [wdV, lo, loL, mv_lo dagV_lo, mv_lo rnV_lo]
theorem cmdV_closed (c : Cmd) : (cmdV c).closed = true := by simp [cmdV, V.closed, closedL, tasksV_closed]
theorem cmdV_lo (c : Cmd) : lo (cmdV c) = cmdV c := by simp [cmdV, lo, loL, tasksV_lo]
theorem ansV_closed (a : Ans) : (ansV a).closed = true := by simp [ansV, V.closed, closedL, sttsV_closed]
theorem ansV_lo (a : Ans) : lo (ansV a) = ansV a := by simp [ansV, lo, loL, sttsV_lo]

/-! As arguments. -/
def yI : Ty := .i .i64
def yIs : Ty := .l 1 8 yI
def yTask : Ty := .st (.cons yIs (.cons yI (.cons yI (.cons yI .nil))))
def yTasks : Ty := .l 4 48 yTask
def fDag (r : Ty) : Ty := .cons .s (.cons yTasks r)
def ySt : Ty := .st (.cons yI (.cons yI (.cons yI (.cons yI (.cons .s .nil)))))
def ySts : Ty := .l 5 48 ySt

def i64 (n : Int) : Prop := -9223372036854775808 ≤ n ∧ n ≤ 9223372036854775807
def okTask (t : Task) : Prop := (∀ x ∈ t.needs, i64 x) ∧ t.needs.length * 8 ≤ reachBytes ∧ i64 t.tries ∧ i64 t.wait ∧ i64 t.lease
def okTasks (l : List Task) : Prop := l.length * 48 ≤ reachBytes ∧ ∀ t ∈ l, okTask t
def okStr (s : Str) : Prop := s.length ≤ reachBytes
def okDag (d : Dag) : Prop := okStr d.name ∧ okTasks d.tasks
def okStt (s : Stt) : Prop := i64 s.is ∧ i64 s.tried ∧ i64 s.due ∧ i64 s.token ∧ okStr s.result

theorem yI_of {vs : List V} (h : TyV yI vs) : ∃ n, vs = [.int .i64 n] ∧ i64 n := h
theorem yS_of {vs : List V} (h : TyV .s vs) : ∃ s, vs = [.str s] ∧ okStr s := h
theorem yIs_of {vs : List V} (h : TyV yIs vs) : ∃ l, vs = [.fsl .loose 1 (vI l)] ∧ l.length * 8 ≤ reachBytes ∧ ∀ x ∈ l, i64 x :=
  list_of (e := yI) (f := V.int .i64) (q := i64) (fun us ⟨x, hx, hb⟩ => ⟨x, by rw [hx]; rfl, hb⟩) h
theorem yTask_of {us : List V} (h : TyV yTask us) : ∃ t, el yTask us = taskV t ∧ okTask t := by
  obtain ⟨u1, w1, rfl, h1, u2, w2, rfl, h2, u3, w3, rfl, h3, u4, w4, rfl, h4, rfl⟩ := h
  obtain ⟨l, rfl, q1, q2⟩ := yIs_of h1
  obtain ⟨a, rfl, qa⟩ := yI_of h2
  obtain ⟨b, rfl, qb⟩ := yI_of h3
  obtain ⟨c, rfl, qc⟩ := yI_of h4
  exact ⟨⟨l, a, b, c⟩, rfl, q2, q1, qa, qb, qc⟩
theorem yTasks_of {vs : List V} (h : TyV yTasks vs) : ∃ l, vs = [tasksV l] ∧ okTasks l := by
  obtain ⟨l, h1, h2, h3⟩ := list_of (e := yTask) (f := taskV) (q := okTask) (fun us hu => yTask_of hu) h
  exact ⟨l, h1, h2, h3⟩
theorem fDag_of {r : Ty} {vs : List V} (h : TyV (fDag r) vs) : ∃ d ws, vs = .str d.name :: tasksV d.tasks :: ws ∧ okDag d ∧ TyV r ws := by
  obtain ⟨u1, w1, rfl, h1, u2, w2, rfl, h2, h3⟩ := h
  obtain ⟨s, rfl, q1⟩ := yS_of h1
  obtain ⟨l, rfl, q2⟩ := yTasks_of h2
  exact ⟨⟨s, l⟩, w2, rfl, ⟨q1, q2⟩, h3⟩
theorem ySt_of {us : List V} (h : TyV ySt us) : ∃ s, el ySt us = sttV s ∧ okStt s := by
  obtain ⟨u1, w1, rfl, h1, u2, w2, rfl, h2, u3, w3, rfl, h3, u4, w4, rfl, h4, u5, w5, rfl, h5, rfl⟩ := h
  obtain ⟨a, rfl, qa⟩ := yI_of h1
  obtain ⟨b, rfl, qb⟩ := yI_of h2
  obtain ⟨c, rfl, qc⟩ := yI_of h3
  obtain ⟨d, rfl, qd⟩ := yI_of h4
  obtain ⟨e, rfl, qe⟩ := yS_of h5
  exact ⟨⟨a, b, c, d, e⟩, rfl, qa, qb, qc, qd, qe⟩
theorem ySts_of {vs : List V} (h : TyV ySts vs) : ∃ l, vs = [sttsV l] ∧ l.length * 48 ≤ reachBytes ∧ ∀ s ∈ l, okStt s :=
  let ⟨l, h1, h2, h3⟩ := list_of (e := ySt) (f := sttV) (q := okStt) (fun us hu => ySt_of hu) h
  ⟨l, h1, h2, h3⟩

end Go.Proofs.Ytjlpmndipceboaa.Ev
end
section
set_option linter.unusedSimpArgs false
set_option linter.unusedVariables false
set_option maxRecDepth 10000
namespace Go.Proofs.Ytjlpmndipceboaa.Ev
open Go

theorem code_join (st : St) (l : List Str) (sep : Str) (hN : l.length ≤ 140737488355328) (hlen : (Lib.join l sep).length ≤ 140737488355328) : PCall Try.prog 55 [.fsl st 1 (vS l), .str sep] (.str (Lib.join l sep)) :=
  join_pcall (ρ := ren_join) lays_join lays1_join ⟨_, Try.func55, by kernel_rfl, by kernel_rfl⟩ st l sep hN hlen
theorem flat_len : ∀ {l : List Str} {N : Nat}, (∀ s ∈ l, s.length ≤ N) → l.flatten.length ≤ l.length * N
  | [], _, _ => by simp
  | a :: l, N, h => by
    have := flat_len (l := l) (N := N) fun s hs => h s (by simp [hs])
    have := h a (by simp)
    rw [List.flatten_cons, List.length_append, List.length_cons, Nat.add_mul]; omega
theorem code_all (st : St) (l : List Str) (hN : l.length ≤ 1000) (hlen : ∀ s ∈ l, s.length ≤ 140737488355) : PCall Try.prog 24 [.fsl st 1 (vS l)] (.str l.flatten) := by
  have hf : l.flatten.length ≤ 140737488355328 := Nat.le_trans (flat_len hlen) (by have := Nat.mul_le_mul_right 140737488355 hN; omega)
  refine en24 (by simp) (by simp [closedL, V.closed, vS_closed]) ?_
  simp (maxSteps := 1000000) (disch := omega) only [rg, gD, Nat.reduceBEq, Nat.reduceEqDiff, Nat.reduceAdd, Int.reduceEq, Int.reduceLT, Int.reduceLE, Int.reduceToNat, reduceIte, reduceCtorEq, Nat.reduceLeDiff, Nat.reduceLT, Nat.reduceMul, Nat.reduceSub, c24]
  refine ⟨_, code_join st l [] (by omega) (by rw [join_nil]; exact hf), ?_⟩
  rw [join_nil]
  simp (maxSteps := 1000000) (disch := omega) only [rg, gD, Nat.reduceBEq, Nat.reduceEqDiff, Nat.reduceAdd, Int.reduceEq, Int.reduceLT, Int.reduceLE, Int.reduceToNat, reduceIte, reduceCtorEq, Nat.reduceLeDiff, Nat.reduceLT, Nat.reduceMul, Nat.reduceSub]
  (refine fin_x rfl ?_ ?_ <;> simp [pack, lo, loL, V.closed, closedL, mv_closed])

def u8V (l : List UInt8) : List V := mv (fun b : UInt8 => V.int .u8 b.toNat) l
theorem u8V_len (l : List UInt8) : (u8V l).length = l.length := mv_len
theorem u8V_closed (l : List UInt8) : closedL (u8V l) = true := mv_closed fun _ => rfl
def beS : Nat → Nat → Str
  | 0, _ => []
  | k + 1, n => beS k (n / 256) ++ [UInt8.ofNat (n % 256)]
theorem beS_len : ∀ k n, (beS k n).length = k
  | 0, _ => rfl
  | k + 1, n => by simp [beS, beS_len k]
theorem beS_get : ∀ (k n j : Nat) (h : j < (beS k n).length), (beS k n)[j] = UInt8.ofNat (n / 256 ^ (k - 1 - j) % 256)
  | 0, _, j, h => by simp [beS] at h
  | k + 1, n, j, h => by
    simp only [beS]
    rw [List.getElem_append]
    split
    · rename_i hj
      rw [beS_get k (n / 256) j hj]
      rw [beS_len] at hj
      rw [Nat.div_div_eq_div_mul, show k + 1 - 1 - j = (k - 1 - j) + 1 by omega, Nat.pow_succ, Nat.mul_comm]
    · rename_i hj
      have : (beS k (n / 256)).length = k := beS_len _ _
      simp [beS_len] at h hj
      have : j = k := by omega
      subst this
      simp [beS_len]
def putS (n size : Int) : Str × Int := if size < 1 ∨ 6 < size ∨ n < 0 ∨ 256 ^ size.toNat ≤ n then ([], 1) else (beS size.toNat n.toNat, 0)
def sV (p : Str × Int) : V := .tup [.str p.1, .int .i64 p.2]

theorem shr8 (n i : Nat) (hi : i ≤ 6) : (n : Int).fdiv (2 ^ min (8 * (i : Int)).toNat 64) = ((n / 256 ^ i : Nat) : Int) := by
  have h : (2 : Nat) ^ (8 * i) = 256 ^ i := Nat.pow_mul 2 8 i
  rw [show min (8 * (i : Int)).toNat 64 = 8 * i by omega, Int.fdiv_eq_ediv_of_nonneg _ (Int.pow_nonneg (by omega)), ← h]
  norm_cast
theorem wrap_u8 (m : Nat) : IntKind.u8.wrap (m : Int) = ((UInt8.ofNat (m % 256)).toNat : Int) := by
  simp [IntKind.wrap, IntKind.bits, IntKind.signed]

theorem code_put (n size : Int) (hn : n ≤ 9223372036854775807) : PCall Try.prog 51 [.int .i64 n, .int .i64 size] (sV (putS n size)) := by
  refine en51 (by simp) (by simp [closedL, V.closed]) ?_
  by_cases c1 : size < 1
  · simp (maxSteps := 1000000) (disch := omega) only [rg, gD, Nat.reduceBEq, Nat.reduceEqDiff, Nat.reduceAdd, Int.reduceEq, Int.reduceLT, Int.reduceLE, Int.reduceToNat, reduceIte, reduceCtorEq, Nat.reduceLeDiff, Nat.reduceLT, Nat.reduceMul, Nat.reduceSub, c51, c1]
    (refine fin_x rfl ?_ ?_ <;> simp [pack, lo, loL, V.closed, closedL, mv_closed, sV, putS, c1])
  by_cases c2 : 6 < size
  · simp (maxSteps := 1000000) (disch := omega) only [rg, gD, Nat.reduceBEq, Nat.reduceEqDiff, Nat.reduceAdd, Int.reduceEq, Int.reduceLT, Int.reduceLE, Int.reduceToNat, reduceIte, reduceCtorEq, Nat.reduceLeDiff, Nat.reduceLT, Nat.reduceMul, Nat.reduceSub, c51, c1, c2]
    (refine fin_x rfl ?_ ?_ <;> simp [pack, lo, loL, V.closed, closedL, mv_closed, sV, putS, c2])
  by_cases c3 : n < 0
  · simp (maxSteps := 1000000) (disch := omega) only [rg, gD, Nat.reduceBEq, Nat.reduceEqDiff, Nat.reduceAdd, Int.reduceEq, Int.reduceLT, Int.reduceLE, Int.reduceToNat, reduceIte, reduceCtorEq, Nat.reduceLeDiff, Nat.reduceLT, Nat.reduceMul, Nat.reduceSub, c51, c1, c2, c3]
    (refine fin_x rfl ?_ ?_ <;> simp [pack, lo, loL, V.closed, closedL, mv_closed, sV, putS, c3])
  obtain ⟨k, rfl⟩ : ∃ k : Nat, size = k := ⟨size.toNat, by omega⟩
  obtain ⟨N, rfl⟩ : ∃ k : Nat, n = k := ⟨n.toNat, by omega⟩
  have e1 := shr8 N k (by omega)
  by_cases c4 : 256 ^ k ≤ N
  · have h0 : ¬ ((N / 256 ^ k : Nat) : Int) = 0 := by have := Nat.div_pos c4 (Nat.pow_pos (by omega)); omega
    simp (maxSteps := 1000000) (disch := omega) only [rg, gD, Nat.reduceBEq, Nat.reduceEqDiff, Nat.reduceAdd, Int.reduceEq, Int.reduceLT, Int.reduceLE, Int.reduceToNat, reduceIte, reduceCtorEq, Nat.reduceLeDiff, Nat.reduceLT, Nat.reduceMul, Nat.reduceSub, c51, c1, c2, c3, IntKind.bits, e1, h0]
    refine ⟨by omega, ?_⟩
    have : (256 : Int) ^ k ≤ N := by exact_mod_cast c4
    (refine fin_x rfl ?_ ?_ <;> simp [pack, lo, loL, V.closed, closedL, mv_closed, sV, putS, this])
  have h0 : ((N / 256 ^ k : Nat) : Int) = 0 := by rw [Nat.div_eq_of_lt (by omega)]; rfl
  have c5 : ¬ (256 : Int) ^ k ≤ N := by intro h; exact c4 (by exact_mod_cast h)
  have hput : putS N k = (beS k N, 0) := by
    unfold putS; rw [if_neg (by simp only [Int.toNat_natCast]; omega)]; simp
  simp (maxSteps := 1000000) (disch := omega) only [rg, gD, Nat.reduceBEq, Nat.reduceEqDiff, Nat.reduceAdd, Int.reduceEq, Int.reduceLT, Int.reduceLE, Int.reduceToNat, reduceIte, reduceCtorEq, Nat.reduceLeDiff, Nat.reduceLT, Nat.reduceMul, Nat.reduceSub, c51, c1, c2, c3, IntKind.bits, e1, h0]
  refine ⟨by omega, by omega, ?_⟩
  let ct : Nat → List UInt8 := fun i => (List.range k).map fun j => if k ≤ i + j then UInt8.ofNat (N / 256 ^ (k - 1 - j) % 256) else 0
  refine x_it k (fun i σ H => H.n = 1 ∧ H.m 0 = some (.arr 1 (u8V (ct i))) ∧ σ = [(0, .int .i64 N), (1, .int .i64 k), (6, .sl 0 0 k), (28, .int .i64 k), (29, .int .i64 i)]) ⟨rfl, ?_, rfl⟩ ?_
  · simp [upd, u8V, mv, ct]
    refine (List.eq_replicate_iff.2 ⟨by simp, ?_⟩).symm
    intro b hb
    obtain ⟨j, hj, rfl⟩ := List.mem_map.1 hb
    simp at hj
    simp [show ¬ k ≤ j by omega]
  rintro T i σ ⟨m, hm⟩ hi ⟨rfl, e0, rfl⟩ hN hX hR
  simp only at e0
  simp (maxSteps := 1000000) (disch := omega) only [rg, gD, Nat.reduceBEq, Nat.reduceEqDiff, Nat.reduceAdd, Int.reduceEq, Int.reduceLT, Int.reduceLE, Int.reduceToNat, reduceIte, reduceCtorEq, Nat.reduceLeDiff, Nat.reduceLT, Nat.reduceMul, Nat.reduceSub]
  refine ⟨fun h => ?_, fun h => ?_⟩
  · have h' : i < k := by omega
    have hk : k - 1 - i < (u8V (ct i)).length := by simp [u8V_len, ct]; omega
    have hk' : k - 1 - i < (ct i).length := by simp [ct]; omega
    have hg : (u8V (ct i))[k - 1 - i]? = some (.int .u8 ((ct i)[k - 1 - i].toNat)) := mv_get hk'
    have e2 := shr8 N i (by omega)
    simp (maxSteps := 1000000) (disch := omega) only [rg, gD, Nat.reduceBEq, Nat.reduceEqDiff, Nat.reduceAdd, Int.reduceEq, Int.reduceLT, Int.reduceLE, Int.reduceToNat, reduceIte, reduceCtorEq, Nat.reduceLeDiff, Nat.reduceLT, Nat.reduceMul, Nat.reduceSub, e0, hg, IntKind.bits, e2, wrap_u8, V.cell, show ((k : Int) - 1 - i).toNat = k - 1 - i by omega]
    have hset : (u8V (ct i)).set (k - 1 - i) (.int .u8 (UInt8.ofNat (N / 256 ^ i % 256)).toNat) = u8V (ct (i + 1)) := by
      rw [u8V, mv_set (f := fun b : UInt8 => V.int .u8 b.toNat)]
      congr 1
      refine List.ext_getElem (by simp [ct]) fun j h1 h2 => ?_
      simp [ct] at h1
      rw [List.getElem_set]
      simp only [ct, List.getElem_map, List.getElem_range]
      by_cases hj : k - 1 - i = j
      · rw [if_pos hj, if_pos (by omega), show k - 1 - j = i by omega]
      · rw [if_neg hj]
        by_cases hk2 : k ≤ i + j
        · rw [if_pos hk2, if_pos (by omega)]
        · rw [if_neg hk2, if_neg (by omega)]
    rw [hset]
    exact ⟨by omega, by omega, hN _ _ h' ⟨rfl, (by simp (disch := omega) only [upd_eq, upd_ne, wo_0, wo_1, wo_2]), rfl⟩⟩
  · obtain rfl : i = k := by omega
    refine hX _ _ _ ?_
    simp (maxSteps := 1000000) (disch := omega) only [rg, gD, Nat.reduceBEq, Nat.reduceEqDiff, Nat.reduceAdd, Int.reduceEq, Int.reduceLT, Int.reduceLE, Int.reduceToNat, reduceIte, reduceCtorEq, Nat.reduceLeDiff, Nat.reduceLT, Nat.reduceMul, Nat.reduceSub]
    refine x_frz0 ?_
    simp (maxSteps := 1000000) (disch := omega) only [rg, gD, Nat.reduceBEq, Nat.reduceEqDiff, Nat.reduceAdd, Int.reduceEq, Int.reduceLT, Int.reduceLE, Int.reduceToNat, reduceIte, reduceCtorEq, Nat.reduceLeDiff, Nat.reduceLT, Nat.reduceMul, Nat.reduceSub, e0, u8V_len]
    have hct : ct i = beS i N := by
      refine List.ext_getElem (by simp [ct, beS_len]) fun j h1 h2 => ?_
      rw [beS_get]
      simp [ct]
    have hl : (ct i).length = i := by simp [ct]
    refine ⟨beS i N, by rw [if_pos (by omega), List.take_of_length_le (by rw [u8V_len]; omega), hct]; rfl, ?_⟩
    simp (maxSteps := 1000000) (disch := omega) only [rg, gD, Nat.reduceBEq, Nat.reduceEqDiff, Nat.reduceAdd, Int.reduceEq, Int.reduceLT, Int.reduceLE, Int.reduceToNat, reduceIte, reduceCtorEq, Nat.reduceLeDiff, Nat.reduceLT, Nat.reduceMul, Nat.reduceSub]
    (refine fin_x rfl ?_ ?_ <;> simp [pack, lo, loL, V.closed, closedL, mv_closed, sV, hput])

theorem putS_len (n size : Int) : (putS n size).1.length ≤ 6 := by
  unfold putS; split
  · simp
  · simp [beS_len]; omega

end Go.Proofs.Ytjlpmndipceboaa.Ev
end
section
set_option linter.unusedSimpArgs false
set_option linter.unusedVariables false
set_option maxRecDepth 10000
namespace Go.Proofs.Ytjlpmndipceboaa.Ev
open Go

theorem u8_fold (s : List UInt8) : (s.map fun b => V.int .u8 b.toNat) = u8V s := rfl
theorem u8V_get {l : List UInt8} {i : Nat} (h : i < l.length) : (u8V l)[i]? = some (.int .u8 l[i].toNat) := mv_get h

def textS (s : Str) : Str × Int := if 65535 < s.length then ([], 2) else (beS 2 s.length ++ s, 0)
def beN (l : Str) : Nat := l.foldl (fun n c => n * 256 + c.toNat) 0
def getS (s : Str) (at' size : Int) : Int × Int × Int :=
  if size < 1 ∨ 6 < size ∨ at' < 0 ∨ (s.length : Int) < at' then (0, 0, 1) else if s.length - at' < size then (0, 0, 3) else (beN ((s.drop at'.toNat).take size.toNat), at' + size, 0)
def cutS (s : Str) (at' : Int) : Str × Int × Int :=
  let p := getS s at' 2
  if p.2.2 ≠ 0 then ([], 0, p.2.2) else if s.length - p.2.1 < p.1 then ([], 0, 3) else ((s.drop p.2.1.toNat).take p.1.toNat, p.2.1 + p.1, 0)
def gV (p : Int × Int × Int) : V := .tup [.int .i64 p.1, .int .i64 p.2.1, .int .i64 p.2.2]
def cV (p : Str × Int × Int) : V := .tup [.str p.1, .int .i64 p.2.1, .int .i64 p.2.2]

theorem beN_snoc (l : Str) (c : UInt8) : beN (l ++ [c]) = beN l * 256 + c.toNat := by simp [beN]
theorem beN_lt (l : Str) : beN l < 256 ^ l.length := by
  suffices h : ∀ (n : Nat) (l : Str), l.length = n → beN l < 256 ^ n from h _ l rfl
  intro n
  induction n with
  | zero => intro l h; have : l = [] := List.eq_nil_of_length_eq_zero h; subst this; simp [beN]
  | succ n ih =>
    intro l h
    obtain ⟨m, c, rfl⟩ : ∃ m c, l = m ++ [c] := ⟨l.dropLast, l.getLast (by intro e; subst e; simp at h), (List.dropLast_concat_getLast _).symm⟩
    have := ih m (by simpa using h)
    rw [beN_snoc, Nat.pow_succ]
    have := c.toNat_lt; omega
theorem or_byte (n : Nat) (c : UInt8) (hn : n < 2 ^ 48) : bits2 .or .i64 ((n : Int) * 256) (c.toNat : Int) = ((n * 256 + c.toNat : Nat) : Int) := by
  have hc := c.toNat_lt
  have e : (n * 256) ||| c.toNat = n * 256 + c.toNat := by
    have := Nat.two_pow_add_eq_or_of_lt (i := 8) (b := c.toNat) (by omega) n
    rw [Nat.mul_comm n 256]; exact this.symm
  have e1 : (BitVec.ofInt 64 ((n : Int) * 256)).toNat = n * 256 := by
    rw [show ((n : Int) * 256) = ((n * 256 : Nat) : Int) by omega, BitVec.ofInt_natCast, BitVec.toNat_ofNat]; omega
  have e2 : (BitVec.ofInt 64 (c.toNat : Int)).toNat = c.toNat := by
    rw [BitVec.ofInt_natCast, BitVec.toNat_ofNat]; omega
  show IntKind.i64.wrap (((BitVec.ofInt 64 ((n : Int) * 256) ||| BitVec.ofInt 64 (c.toNat : Int)) : BitVec 64).toNat : Int) = _
  rw [BitVec.toNat_or, e1, e2, e]
  exact (wrap_i64 (by omega) (by omega) : IntKind.i64.wrap ((n * 256 + c.toNat : Nat) : Int) = _)

theorem code_text (s : Str) (hs : s.length ≤ 1000000000) : PCall Try.prog 53 [.str s] (sV (textS s)) := by
  refine en53 (by simp) (by simp [closedL, V.closed]) ?_
  simp (maxSteps := 1000000) (disch := omega) only [rg, gD, Nat.reduceBEq, Nat.reduceEqDiff, Nat.reduceAdd, Int.reduceEq, Int.reduceLT, Int.reduceLE, Int.reduceToNat, reduceIte, reduceCtorEq, Nat.reduceLeDiff, Nat.reduceLT, Nat.reduceMul, Nat.reduceSub, c53]
  refine ⟨fun h => ?_, fun h => ?_⟩
  · (refine fin_x rfl ?_ ?_ <;> simp [pack, lo, loL, V.closed, closedL, mv_closed, sV, textS, show 65535 < s.length by omega])
  · refine ⟨_, code_put s.length 2 (by omega), ?_⟩
    have e : putS (s.length : Int) 2 = (beS 2 s.length, 0) := by
      unfold putS; rw [if_neg (by simp; omega)]; simp
    simp (maxSteps := 1000000) (disch := omega) only [rg, gD, Nat.reduceBEq, Nat.reduceEqDiff, Nat.reduceAdd, Int.reduceEq, Int.reduceLT, Int.reduceLE, Int.reduceToNat, reduceIte, reduceCtorEq, Nat.reduceLeDiff, Nat.reduceLT, Nat.reduceMul, Nat.reduceSub, e, sV]
    refine ⟨_, code_all .full [beS 2 s.length, s] (by simp) (by simp [beS_len]; omega), ?_⟩
    simp (maxSteps := 1000000) (disch := omega) only [rg, gD, Nat.reduceBEq, Nat.reduceEqDiff, Nat.reduceAdd, Int.reduceEq, Int.reduceLT, Int.reduceLE, Int.reduceToNat, reduceIte, reduceCtorEq, Nat.reduceLeDiff, Nat.reduceLT, Nat.reduceMul, Nat.reduceSub]
    (refine fin_x rfl ?_ ?_ <;> simp [pack, lo, loL, V.closed, closedL, mv_closed, sV, textS, show ¬ 65535 < s.length by omega])

theorem code_get (s : Str) (at' size : Int) (hs : s.length ≤ 1000000000) : PCall Try.prog 64 [.str s, .int .i64 at', .int .i64 size] (gV (getS s at' size)) := by
  refine en64 (by simp) (by simp [closedL, V.closed]) ?_
  by_cases c1 : size < 1
  · simp (maxSteps := 1000000) (disch := omega) only [rg, gD, Nat.reduceBEq, Nat.reduceEqDiff, Nat.reduceAdd, Int.reduceEq, Int.reduceLT, Int.reduceLE, Int.reduceToNat, reduceIte, reduceCtorEq, Nat.reduceLeDiff, Nat.reduceLT, Nat.reduceMul, Nat.reduceSub, c64, c1]
    (refine fin_x rfl ?_ ?_ <;> simp [pack, lo, loL, V.closed, closedL, mv_closed, gV, getS, c1])
  by_cases c2 : 6 < size
  · simp (maxSteps := 1000000) (disch := omega) only [rg, gD, Nat.reduceBEq, Nat.reduceEqDiff, Nat.reduceAdd, Int.reduceEq, Int.reduceLT, Int.reduceLE, Int.reduceToNat, reduceIte, reduceCtorEq, Nat.reduceLeDiff, Nat.reduceLT, Nat.reduceMul, Nat.reduceSub, c64, c1, c2]
    (refine fin_x rfl ?_ ?_ <;> simp [pack, lo, loL, V.closed, closedL, mv_closed, gV, getS, c2])
  by_cases c3 : at' < 0
  · simp (maxSteps := 1000000) (disch := omega) only [rg, gD, Nat.reduceBEq, Nat.reduceEqDiff, Nat.reduceAdd, Int.reduceEq, Int.reduceLT, Int.reduceLE, Int.reduceToNat, reduceIte, reduceCtorEq, Nat.reduceLeDiff, Nat.reduceLT, Nat.reduceMul, Nat.reduceSub, c64, c1, c2, c3]
    (refine fin_x rfl ?_ ?_ <;> simp [pack, lo, loL, V.closed, closedL, mv_closed, gV, getS, c3])
  by_cases c4 : (s.length : Int) < at'
  · simp (maxSteps := 1000000) (disch := omega) only [rg, gD, Nat.reduceBEq, Nat.reduceEqDiff, Nat.reduceAdd, Int.reduceEq, Int.reduceLT, Int.reduceLE, Int.reduceToNat, reduceIte, reduceCtorEq, Nat.reduceLeDiff, Nat.reduceLT, Nat.reduceMul, Nat.reduceSub, c64, c1, c2, c3, c4]
    (refine fin_x rfl ?_ ?_ <;> simp [pack, lo, loL, V.closed, closedL, mv_closed, gV, getS, c4])
  have hno : ¬ (size < 1 ∨ 6 < size ∨ at' < 0 ∨ (s.length : Int) < at') := by omega
  by_cases c5 : (s.length : Int) - at' < size
  · simp (maxSteps := 1000000) (disch := omega) only [rg, gD, Nat.reduceBEq, Nat.reduceEqDiff, Nat.reduceAdd, Int.reduceEq, Int.reduceLT, Int.reduceLE, Int.reduceToNat, reduceIte, reduceCtorEq, Nat.reduceLeDiff, Nat.reduceLT, Nat.reduceMul, Nat.reduceSub, c64, c1, c2, c3, c4, c5]
    (refine fin_x rfl ?_ ?_ <;> simp [pack, lo, loL, V.closed, closedL, mv_closed, gV, getS, hno, c5])
  obtain ⟨k, rfl⟩ : ∃ k : Nat, size = k := ⟨size.toNat, by omega⟩
  obtain ⟨a, rfl⟩ : ∃ a : Nat, at' = a := ⟨at'.toNat, by omega⟩
  have hgs : getS s a k = ((beN ((s.drop a).take k) : Int), (a : Int) + k, 0) := by unfold getS; rw [if_neg hno, if_neg c5]; simp
  have hst : List.drop a (List.take (a + k) s) = (s.drop a).take k := by rw [List.drop_take]; congr 1; omega
  have e1 : ((a : Int) + k).toNat = a + k := by omega
  simp (maxSteps := 1000000) (disch := omega) only [rg, gD, Nat.reduceBEq, Nat.reduceEqDiff, Nat.reduceAdd, Int.reduceEq, Int.reduceLT, Int.reduceLE, Int.reduceToNat, reduceIte, reduceCtorEq, Nat.reduceLeDiff, Nat.reduceLT, Nat.reduceMul, Nat.reduceSub, c64, c1, c2, c3, c4, c5, e1, hst, u8_fold, u8V_len]
  refine ⟨by omega, ?_⟩
  have hl : ((s.drop a).take k).length = k := by simp; omega
  rw [hl]
  generalize hm : (s.drop a).take k = m at hl
  refine x_itp k (fun _ => True) (fun i => [(1, .int .i64 a), (2, .int .i64 k), (9, .int .i64 (beN (m.take i))), (42, .fsl .loose 1 (u8V m)), (43, .int .i64 k), (44, .int .i64 i)]) trivial rfl ?_
  intro T i hi _ hN hX hR
  simp (maxSteps := 1000000) (disch := omega) only [rg, gD, Nat.reduceBEq, Nat.reduceEqDiff, Nat.reduceAdd, Int.reduceEq, Int.reduceLT, Int.reduceLE, Int.reduceToNat, reduceIte, reduceCtorEq, Nat.reduceLeDiff, Nat.reduceLT, Nat.reduceMul, Nat.reduceSub]
  refine ⟨fun h => ?_, fun h => ?_⟩
  · have i1 : i < m.length := by omega
    have h6 : beN (m.take i) < 2 ^ 48 := Nat.lt_of_lt_of_le (beN_lt _) (by
      rw [List.length_take, show (2 : Nat) ^ 48 = 256 ^ 6 from rfl]
      exact Nat.pow_le_pow_right (by omega) (by omega))
    have e2 := or_byte (beN (m.take i)) m[i] h6
    have hb := m[i].toNat_lt
    have e3 := wrap_i64 (n := (beN (m.take i) : Int) * 256) (by omega) (by omega)
    simp (maxSteps := 1000000) (disch := omega) only [rg, gD, Nat.reduceBEq, Nat.reduceEqDiff, Nat.reduceAdd, Int.reduceEq, Int.reduceLT, Int.reduceLE, Int.reduceToNat, reduceIte, reduceCtorEq, Nat.reduceLeDiff, Nat.reduceLT, Nat.reduceMul, Nat.reduceSub, u8V_get, e2, e3, IntKind.bits, show min (8 : Nat) 64 = 8 from rfl, Int.reducePow]
    refine hN _ (by omega) trivial ?_
    rw [List.take_succ_eq_append_getElem i1, beN_snoc]
    simp
  · obtain rfl : i = k := by omega
    refine hX _ _ _ ?_
    simp (maxSteps := 1000000) (disch := omega) only [rg, gD, Nat.reduceBEq, Nat.reduceEqDiff, Nat.reduceAdd, Int.reduceEq, Int.reduceLT, Int.reduceLE, Int.reduceToNat, reduceIte, reduceCtorEq, Nat.reduceLeDiff, Nat.reduceLT, Nat.reduceMul, Nat.reduceSub]
    refine x_frz0 ?_
    simp (maxSteps := 1000000) (disch := omega) only [rg, gD, Nat.reduceBEq, Nat.reduceEqDiff, Nat.reduceAdd, Int.reduceEq, Int.reduceLT, Int.reduceLE, Int.reduceToNat, reduceIte, reduceCtorEq, Nat.reduceLeDiff, Nat.reduceLT, Nat.reduceMul, Nat.reduceSub]
    rw [List.take_of_length_le (by omega)]
    (refine fin_x rfl ?_ ?_ <;> simp [pack, lo, loL, V.closed, closedL, mv_closed, gV, hgs, hm])

end Go.Proofs.Ytjlpmndipceboaa.Ev
end
section
set_option linter.unusedSimpArgs false
set_option linter.unusedVariables false
set_option maxRecDepth 10000
namespace Go.Proofs.Ytjlpmndipceboaa.Ev
open Go

theorem getS_cases (s : Str) (a k : Int) : (getS s a k = (0, 0, 1) ∨ getS s a k = (0, 0, 3)) ∨ (1 ≤ k ∧ k ≤ 6 ∧ 0 ≤ a ∧ a + k ≤ s.length ∧ getS s a k = ((beN ((s.drop a.toNat).take k.toNat) : Int), a + k, 0)) := by
  unfold getS
  split
  · exact .inl (.inl rfl)
  · split
    · exact .inl (.inr rfl)
    · exact .inr ⟨by omega, by omega, by omega, by omega, rfl⟩
theorem beN_take_lt (s : Str) (a k : Nat) : beN ((s.drop a).take k) < 256 ^ k :=
  Nat.lt_of_lt_of_le (beN_lt _) (Nat.pow_le_pow_right (by omega) (by simp; omega))

theorem code_cut (s : Str) (at' : Int) (hs : s.length ≤ 1000000000) : PCall Try.prog 65 [.str s, .int .i64 at'] (cV (cutS s at')) := by
  refine en65 (by simp) (by simp [closedL, V.closed]) ?_
  simp (maxSteps := 1000000) (disch := omega) only [rg, gD, Nat.reduceBEq, Nat.reduceEqDiff, Nat.reduceAdd, Int.reduceEq, Int.reduceLT, Int.reduceLE, Int.reduceToNat, reduceIte, reduceCtorEq, Nat.reduceLeDiff, Nat.reduceLT, Nat.reduceMul, Nat.reduceSub, c65]
  refine ⟨_, code_get s at' 2 hs, ?_⟩
  rcases getS_cases s at' 2 with (e | e) | ⟨h1, h2, h3, h4, e⟩
  · simp (maxSteps := 1000000) (disch := omega) only [rg, gD, Nat.reduceBEq, Nat.reduceEqDiff, Nat.reduceAdd, Int.reduceEq, Int.reduceLT, Int.reduceLE, Int.reduceToNat, reduceIte, reduceCtorEq, Nat.reduceLeDiff, Nat.reduceLT, Nat.reduceMul, Nat.reduceSub, e, gV]
    (refine fin_x rfl ?_ ?_ <;> simp [pack, lo, loL, V.closed, closedL, mv_closed, cV, cutS, e])
  · simp (maxSteps := 1000000) (disch := omega) only [rg, gD, Nat.reduceBEq, Nat.reduceEqDiff, Nat.reduceAdd, Int.reduceEq, Int.reduceLT, Int.reduceLE, Int.reduceToNat, reduceIte, reduceCtorEq, Nat.reduceLeDiff, Nat.reduceLT, Nat.reduceMul, Nat.reduceSub, e, gV]
    (refine fin_x rfl ?_ ?_ <;> simp [pack, lo, loL, V.closed, closedL, mv_closed, cV, cutS, e])
  · have hlt := beN_take_lt s at'.toNat 2
    generalize hn : beN ((s.drop at'.toNat).take (2 : Int).toNat) = n at e
    have hn2 : n < 65536 := by rw [← hn]; exact hlt
    by_cases c : (s.length : Int) - (at' + 2) < n
    · simp (maxSteps := 1000000) (disch := omega) only [rg, gD, Nat.reduceBEq, Nat.reduceEqDiff, Nat.reduceAdd, Int.reduceEq, Int.reduceLT, Int.reduceLE, Int.reduceToNat, reduceIte, reduceCtorEq, Nat.reduceLeDiff, Nat.reduceLT, Nat.reduceMul, Nat.reduceSub, e, gV, c]
      (refine fin_x rfl ?_ ?_ <;> simp [pack, lo, loL, V.closed, closedL, mv_closed, cV, cutS, e, c])
    · simp (maxSteps := 1000000) (disch := omega) only [rg, gD, Nat.reduceBEq, Nat.reduceEqDiff, Nat.reduceAdd, Int.reduceEq, Int.reduceLT, Int.reduceLE, Int.reduceToNat, reduceIte, reduceCtorEq, Nat.reduceLeDiff, Nat.reduceLT, Nat.reduceMul, Nat.reduceSub, e, gV, c]
      refine ⟨by omega, ?_⟩
      have ec : cutS s at' = (List.drop (at' + 2).toNat (List.take (at' + 2 + n).toNat s), at' + 2 + n, 0) := by
        simp only [cutS, e]
        rw [if_neg (by simp), if_neg c, List.drop_take, show (at' + 2 + (n : Int)).toNat - (at' + 2).toNat = n by omega]
        rfl
      (refine fin_x rfl ?_ ?_ <;> simp [pack, lo, loL, V.closed, closedL, mv_closed, cV, ec])

theorem ref_power (n : Nat) (hn : n ≤ 6) : PCall Try.prog 81 [.int .i64 n] (.int .i64 ((256 ^ n : Nat) : Int)) := by
  refine en81 (by simp) (by simp [closedL, V.closed]) ?_
  simp (maxSteps := 1000000) (disch := omega) only [rg, gD, Nat.reduceBEq, Nat.reduceEqDiff, Nat.reduceAdd, Int.reduceEq, Int.reduceLT, Int.reduceLE, Int.reduceToNat, reduceIte, reduceCtorEq, Nat.reduceLeDiff, Nat.reduceLT, Nat.reduceMul, Nat.reduceSub, c81]
  refine x_itp n (fun _ => True) (fun i => [(0, .int .i64 n), (3, .int .i64 ((256 ^ i : Nat) : Int)), (4, .int .i64 i)]) trivial rfl ?_
  intro T i hi _ hN hX hR
  have hp : 256 ^ (i + 1) = 256 ^ i * 256 := Nat.pow_succ ..
  have hb : 256 ^ i ≤ 256 ^ 6 := Nat.pow_le_pow_right (by omega) (by omega)
  simp (maxSteps := 1000000) (disch := omega) only [rg, gD, Nat.reduceBEq, Nat.reduceEqDiff, Nat.reduceAdd, Int.reduceEq, Int.reduceLT, Int.reduceLE, Int.reduceToNat, reduceIte, reduceCtorEq, Nat.reduceLeDiff, Nat.reduceLT, Nat.reduceMul, Nat.reduceSub]
  refine ⟨fun h => ?_, fun h => ?_⟩
  · have e3 := wrap_i64 (n := ((256 ^ i : Nat) : Int) * 256) (by omega) (by omega)
    try simp (maxSteps := 1000000) (disch := omega) only [rg, gD, Nat.reduceBEq, Nat.reduceEqDiff, Nat.reduceAdd, Int.reduceEq, Int.reduceLT, Int.reduceLE, Int.reduceToNat, reduceIte, reduceCtorEq, Nat.reduceLeDiff, Nat.reduceLT, Nat.reduceMul, Nat.reduceSub, e3]
    refine hN _ (by omega) trivial ?_
    rw [hp]; simp
  · obtain rfl : i = n := by omega
    refine hX _ _ _ ?_
    simp (maxSteps := 1000000) (disch := omega) only [rg, gD, Nat.reduceBEq, Nat.reduceEqDiff, Nat.reduceAdd, Int.reduceEq, Int.reduceLT, Int.reduceLE, Int.reduceToNat, reduceIte, reduceCtorEq, Nat.reduceLeDiff, Nat.reduceLT, Nat.reduceMul, Nat.reduceSub]
    refine x_frz0 ?_
    simp (maxSteps := 1000000) (disch := omega) only [rg, gD, Nat.reduceBEq, Nat.reduceEqDiff, Nat.reduceAdd, Int.reduceEq, Int.reduceLT, Int.reduceLE, Int.reduceToNat, reduceIte, reduceCtorEq, Nat.reduceLeDiff, Nat.reduceLT, Nat.reduceMul, Nat.reduceSub]
    (refine fin_x rfl ?_ ?_ <;> simp [pack, lo, loL, V.closed, closedL, mv_closed])

theorem byte_of (N i : Nat) : IntKind.u8.wrap (((N / 256 ^ i % 256 : Nat) : Int)) = ((UInt8.ofNat (N / 256 ^ i % 256)).toNat : Int) := by
  rw [wrap_u8]; simp

theorem ref_put (n size : Int) (hn : n ≤ 9223372036854775807) : PCall Try.prog 61 [.int .i64 n, .int .i64 size] (sV (putS n size)) := by
  refine en61 (by simp) (by simp [closedL, V.closed]) ?_
  by_cases c1 : size < 1
  · simp (maxSteps := 1000000) (disch := omega) only [rg, gD, Nat.reduceBEq, Nat.reduceEqDiff, Nat.reduceAdd, Int.reduceEq, Int.reduceLT, Int.reduceLE, Int.reduceToNat, reduceIte, reduceCtorEq, Nat.reduceLeDiff, Nat.reduceLT, Nat.reduceMul, Nat.reduceSub, c61, c1]
    (refine fin_x rfl ?_ ?_ <;> simp [pack, lo, loL, V.closed, closedL, mv_closed, sV, putS, c1])
  by_cases c2 : 6 < size
  · simp (maxSteps := 1000000) (disch := omega) only [rg, gD, Nat.reduceBEq, Nat.reduceEqDiff, Nat.reduceAdd, Int.reduceEq, Int.reduceLT, Int.reduceLE, Int.reduceToNat, reduceIte, reduceCtorEq, Nat.reduceLeDiff, Nat.reduceLT, Nat.reduceMul, Nat.reduceSub, c61, c1, c2]
    (refine fin_x rfl ?_ ?_ <;> simp [pack, lo, loL, V.closed, closedL, mv_closed, sV, putS, c2])
  by_cases c3 : n < 0
  · simp (maxSteps := 1000000) (disch := omega) only [rg, gD, Nat.reduceBEq, Nat.reduceEqDiff, Nat.reduceAdd, Int.reduceEq, Int.reduceLT, Int.reduceLE, Int.reduceToNat, reduceIte, reduceCtorEq, Nat.reduceLeDiff, Nat.reduceLT, Nat.reduceMul, Nat.reduceSub, c61, c1, c2, c3]
    (refine fin_x rfl ?_ ?_ <;> simp [pack, lo, loL, V.closed, closedL, mv_closed, sV, putS, c3])
  obtain ⟨k, rfl⟩ : ∃ k : Nat, size = k := ⟨size.toNat, by omega⟩
  obtain ⟨N, rfl⟩ : ∃ k : Nat, n = k := ⟨n.toNat, by omega⟩
  simp (maxSteps := 1000000) (disch := omega) only [rg, gD, Nat.reduceBEq, Nat.reduceEqDiff, Nat.reduceAdd, Int.reduceEq, Int.reduceLT, Int.reduceLE, Int.reduceToNat, reduceIte, reduceCtorEq, Nat.reduceLeDiff, Nat.reduceLT, Nat.reduceMul, Nat.reduceSub, c61, c1, c2, c3]
  refine ⟨_, ref_power k (by omega), ?_⟩
  by_cases c4 : 256 ^ k ≤ N
  · have h0 : ((256 ^ k : Nat) : Int) ≤ N := by omega
    have : (256 : Int) ^ k ≤ N := by exact_mod_cast c4
    simp (maxSteps := 1000000) (disch := omega) only [rg, gD, Nat.reduceBEq, Nat.reduceEqDiff, Nat.reduceAdd, Int.reduceEq, Int.reduceLT, Int.reduceLE, Int.reduceToNat, reduceIte, reduceCtorEq, Nat.reduceLeDiff, Nat.reduceLT, Nat.reduceMul, Nat.reduceSub, h0]
    (refine fin_x rfl ?_ ?_ <;> simp [pack, lo, loL, V.closed, closedL, mv_closed, sV, putS, this])
  have c5 : ¬ (256 : Int) ^ k ≤ N := by intro h; exact c4 (by exact_mod_cast h)
  have h0 : ¬ ((256 ^ k : Nat) : Int) ≤ N := by omega
  have hput : putS N k = (beS k N, 0) := by
    unfold putS; rw [if_neg (by simp only [Int.toNat_natCast]; omega)]; simp
  simp (maxSteps := 1000000) (disch := omega) only [rg, gD, Nat.reduceBEq, Nat.reduceEqDiff, Nat.reduceAdd, Int.reduceEq, Int.reduceLT, Int.reduceLE, Int.reduceToNat, reduceIte, reduceCtorEq, Nat.reduceLeDiff, Nat.reduceLT, Nat.reduceMul, Nat.reduceSub, h0]
  refine x_it k (fun i σ H => ∃ v, σ = [(0, .int .i64 N), (6, v), (7, .int .i64 (k - 1 - i))] ∧ ((i = 0 ∧ v = .fsl .full 1 []) ∨ ∃ id, id < H.n ∧ v = .sl id 0 i ∧ 0 < i ∧ H.m id = some (.arr 1 (u8V ((beS k N).take i))))) ⟨_, by simp, .inl ⟨rfl, rfl⟩⟩ ?_
  rintro T i σ ⟨q, m⟩ hi ⟨v, rfl, hv⟩ hN hX hR
  simp only at hv
  simp (maxSteps := 1000000) (disch := omega) only [rg, gD, Nat.reduceBEq, Nat.reduceEqDiff, Nat.reduceAdd, Int.reduceEq, Int.reduceLT, Int.reduceLE, Int.reduceToNat, reduceIte, reduceCtorEq, Nat.reduceLeDiff, Nat.reduceLT, Nat.reduceMul, Nat.reduceSub]
  refine ⟨fun h => ?_, fun h => ?_⟩
  · have i1 : i < k := by omega
    have hik : ((k : Int) - 1 - i) = ((k - 1 - i : Nat) : Int) := by omega
    rw [hik]
    refine ⟨_, ref_power (k - 1 - i) (by omega), ?_⟩
    have hpos : 0 < 256 ^ (k - 1 - i) := Nat.pow_pos (by omega)
    have hdiv : ((N : Int) / ((256 ^ (k - 1 - i) : Nat) : Int)) = ((N / 256 ^ (k - 1 - i) : Nat) : Int) := by simp
    have hmod : (((N / 256 ^ (k - 1 - i) : Nat) : Int) % 256) = ((N / 256 ^ (k - 1 - i) % 256 : Nat) : Int) := by simp
    have hle : N / 256 ^ (k - 1 - i) ≤ N := Nat.div_le_self _ _
    have hs1 : ∀ l : List UInt8, l = (beS k N).take i → u8V l ++ [.int .u8 (UInt8.ofNat (N / 256 ^ (k - 1 - i) % 256)).toNat] = u8V ((beS k N).take (i + 1)) := fun l hl => by
      have hlt : i < (beS k N).length := by rw [beS_len]; exact i1
      rw [hl, List.take_succ_eq_append_getElem hlt, beS_get k N i hlt]
      simp [u8V, mv]
    have hz : ¬ ((256 ^ (k - 1 - i) : Nat) : Int) = 0 := by omega
    have hz2 : (0 : Int) < ((256 ^ (k - 1 - i) : Nat) : Int) := by omega
    have e4 := byte_of N (k - 1 - i)
    generalize N / 256 ^ (k - 1 - i) = D at hdiv hmod hle hs1 e4
    generalize ((256 ^ (k - 1 - i) : Nat) : Int) = Z at hdiv hz hz2
    rcases hv with ⟨rfl, rfl⟩ | ⟨id, hid, rfl, h0, hm⟩
    · simp (maxSteps := 1000000) (disch := omega) only [rg, gD, Nat.reduceBEq, Nat.reduceEqDiff, Nat.reduceAdd, Int.reduceEq, Int.reduceLT, Int.reduceLE, Int.reduceToNat, reduceIte, reduceCtorEq, Nat.reduceLeDiff, Nat.reduceLT, Nat.reduceMul, Nat.reduceSub, appO, hdiv, hmod, e4]
      refine ⟨hz, hN _ _ i1 ⟨_, ?_, .inr ⟨q, by simp, rfl, by omega, ?_⟩⟩⟩
      · simp; omega
      · rw [← hs1 [] (by simp)]; simp [upd, u8V, mv]
    · have hl2 : (u8V ((beS k N).take i)).length = i := by rw [u8V_len]; simp [beS_len]; omega
      have ht2 : List.take i (u8V ((beS k N).take i)) = u8V ((beS k N).take i) := List.take_of_length_le (by omega)
      simp (maxSteps := 1000000) (disch := omega) only [rg, gD, Nat.reduceBEq, Nat.reduceEqDiff, Nat.reduceAdd, Int.reduceEq, Int.reduceLT, Int.reduceLE, Int.reduceToNat, reduceIte, reduceCtorEq, Nat.reduceLeDiff, Nat.reduceLT, Nat.reduceMul, Nat.reduceSub, appO, hdiv, hmod, e4, hm, hl2, ht2, hs1 _ rfl]
      refine ⟨hz, by omega, hN _ _ i1 ⟨_, ?_, .inr ⟨q, by simp, rfl, by omega, (by simp (disch := omega) only [upd_eq, upd_ne, wo_0, wo_1, wo_2])⟩⟩⟩
      simp; omega
  · obtain rfl : i = k := by omega
    refine hX _ _ _ ?_
    simp (maxSteps := 1000000) (disch := omega) only [rg, gD, Nat.reduceBEq, Nat.reduceEqDiff, Nat.reduceAdd, Int.reduceEq, Int.reduceLT, Int.reduceLE, Int.reduceToNat, reduceIte, reduceCtorEq, Nat.reduceLeDiff, Nat.reduceLT, Nat.reduceMul, Nat.reduceSub]
    refine x_frz0 ?_
    rcases hv with ⟨rfl, rfl⟩ | ⟨id, hid, rfl, h0, hm⟩
    · omega
    · simp (maxSteps := 1000000) (disch := omega) only [rg, gD, Nat.reduceBEq, Nat.reduceEqDiff, Nat.reduceAdd, Int.reduceEq, Int.reduceLT, Int.reduceLE, Int.reduceToNat, reduceIte, reduceCtorEq, Nat.reduceLeDiff, Nat.reduceLT, Nat.reduceMul, Nat.reduceSub, hm]
      refine ⟨beS i N, by rw [List.take_of_length_le (by rw [beS_len]; omega), if_pos (by simp [u8V_len, beS_len]), List.take_of_length_le (by simp [u8V_len, beS_len])]; rfl, ?_⟩
      simp (maxSteps := 1000000) (disch := omega) only [rg, gD, Nat.reduceBEq, Nat.reduceEqDiff, Nat.reduceAdd, Int.reduceEq, Int.reduceLT, Int.reduceLE, Int.reduceToNat, reduceIte, reduceCtorEq, Nat.reduceLeDiff, Nat.reduceLT, Nat.reduceMul, Nat.reduceSub]
      (refine fin_x rfl ?_ ?_ <;> simp [pack, lo, loL, V.closed, closedL, mv_closed, sV, hput])

theorem beS_two (n : Nat) (h : n < 65536) : beS 2 n = [UInt8.ofNat (n / 256), UInt8.ofNat (n % 256)] := by
  show [] ++ [UInt8.ofNat (n / 256 % 256)] ++ [UInt8.ofNat (n % 256)] = _
  rw [Nat.mod_eq_of_lt (a := n / 256) (by omega)]; rfl

theorem ref_text (s : Str) (hs : s.length ≤ 1000000000) : PCall Try.prog 59 [.str s] (sV (textS s)) := by
  refine en59 (by simp) (by simp [closedL, V.closed]) ?_
  simp (maxSteps := 1000000) (disch := omega) only [rg, gD, Nat.reduceBEq, Nat.reduceEqDiff, Nat.reduceAdd, Int.reduceEq, Int.reduceLT, Int.reduceLE, Int.reduceToNat, reduceIte, reduceCtorEq, Nat.reduceLeDiff, Nat.reduceLT, Nat.reduceMul, Nat.reduceSub, c59]
  refine ⟨fun h => ?_, fun h => ?_⟩
  · (refine fin_x rfl ?_ ?_ <;> simp [pack, lo, loL, V.closed, closedL, mv_closed, sV, textS, show 65535 < s.length by omega])
  · have h1 : s.length < 65536 := by omega
    have q1 : IntKind.u8.wrap ((s.length : Int) / 256) = ((UInt8.ofNat (s.length / 256)).toNat : Int) := by
      rw [show ((s.length : Int) / 256) = ((s.length / 256 : Nat) : Int) by omega, wrap_u8, Nat.mod_eq_of_lt (by omega)]
    have q2 : IntKind.u8.wrap ((s.length : Int) % 256) = ((UInt8.ofNat (s.length % 256)).toNat : Int) := by
      rw [show ((s.length : Int) % 256) = ((s.length % 256 : Nat) : Int) by omega, wrap_u8, Nat.mod_mod]
    simp (maxSteps := 1000000) (disch := omega) only [rg, gD, Nat.reduceBEq, Nat.reduceEqDiff, Nat.reduceAdd, Int.reduceEq, Int.reduceLT, Int.reduceLE, Int.reduceToNat, reduceIte, reduceCtorEq, Nat.reduceLeDiff, Nat.reduceLT, Nat.reduceMul, Nat.reduceSub, q1, q2]
    refine ⟨[UInt8.ofNat (s.length / 256), UInt8.ofNat (s.length % 256)], rfl, ?_⟩
    simp (maxSteps := 1000000) (disch := omega) only [rg, gD, Nat.reduceBEq, Nat.reduceEqDiff, Nat.reduceAdd, Int.reduceEq, Int.reduceLT, Int.reduceLE, Int.reduceToNat, reduceIte, reduceCtorEq, Nat.reduceLeDiff, Nat.reduceLT, Nat.reduceMul, Nat.reduceSub]
    refine ⟨by omega, ?_⟩
    (refine fin_x rfl ?_ ?_ <;> simp [pack, lo, loL, V.closed, closedL, mv_closed, sV, textS, show ¬ 65535 < s.length by omega, beS_two s.length h1])

theorem ref_get (s : Str) (at' size : Int) (hs : s.length ≤ 1000000000) : PCall Try.prog 71 [.str s, .int .i64 at', .int .i64 size] (gV (getS s at' size)) := by
  refine en71 (by simp) (by simp [closedL, V.closed]) ?_
  by_cases c1 : size < 1
  · simp (maxSteps := 1000000) (disch := omega) only [rg, gD, Nat.reduceBEq, Nat.reduceEqDiff, Nat.reduceAdd, Int.reduceEq, Int.reduceLT, Int.reduceLE, Int.reduceToNat, reduceIte, reduceCtorEq, Nat.reduceLeDiff, Nat.reduceLT, Nat.reduceMul, Nat.reduceSub, c71, c1]
    (refine fin_x rfl ?_ ?_ <;> simp [pack, lo, loL, V.closed, closedL, mv_closed, gV, getS, c1])
  by_cases c2 : 6 < size
  · simp (maxSteps := 1000000) (disch := omega) only [rg, gD, Nat.reduceBEq, Nat.reduceEqDiff, Nat.reduceAdd, Int.reduceEq, Int.reduceLT, Int.reduceLE, Int.reduceToNat, reduceIte, reduceCtorEq, Nat.reduceLeDiff, Nat.reduceLT, Nat.reduceMul, Nat.reduceSub, c71, c1, c2]
    (refine fin_x rfl ?_ ?_ <;> simp [pack, lo, loL, V.closed, closedL, mv_closed, gV, getS, c2])
  by_cases c3 : at' < 0
  · simp (maxSteps := 1000000) (disch := omega) only [rg, gD, Nat.reduceBEq, Nat.reduceEqDiff, Nat.reduceAdd, Int.reduceEq, Int.reduceLT, Int.reduceLE, Int.reduceToNat, reduceIte, reduceCtorEq, Nat.reduceLeDiff, Nat.reduceLT, Nat.reduceMul, Nat.reduceSub, c71, c1, c2, c3]
    (refine fin_x rfl ?_ ?_ <;> simp [pack, lo, loL, V.closed, closedL, mv_closed, gV, getS, c3])
  by_cases c4 : (s.length : Int) < at'
  · simp (maxSteps := 1000000) (disch := omega) only [rg, gD, Nat.reduceBEq, Nat.reduceEqDiff, Nat.reduceAdd, Int.reduceEq, Int.reduceLT, Int.reduceLE, Int.reduceToNat, reduceIte, reduceCtorEq, Nat.reduceLeDiff, Nat.reduceLT, Nat.reduceMul, Nat.reduceSub, c71, c1, c2, c3, c4]
    (refine fin_x rfl ?_ ?_ <;> simp [pack, lo, loL, V.closed, closedL, mv_closed, gV, getS, c4])
  have hno : ¬ (size < 1 ∨ 6 < size ∨ at' < 0 ∨ (s.length : Int) < at') := by omega
  by_cases c5 : (s.length : Int) - at' < size
  · simp (maxSteps := 1000000) (disch := omega) only [rg, gD, Nat.reduceBEq, Nat.reduceEqDiff, Nat.reduceAdd, Int.reduceEq, Int.reduceLT, Int.reduceLE, Int.reduceToNat, reduceIte, reduceCtorEq, Nat.reduceLeDiff, Nat.reduceLT, Nat.reduceMul, Nat.reduceSub, c71, c1, c2, c3, c4, c5]
    (refine fin_x rfl ?_ ?_ <;> simp [pack, lo, loL, V.closed, closedL, mv_closed, gV, getS, hno, c5])
  obtain ⟨k, rfl⟩ : ∃ k : Nat, size = k := ⟨size.toNat, by omega⟩
  obtain ⟨a, rfl⟩ : ∃ a : Nat, at' = a := ⟨at'.toNat, by omega⟩
  have hgs : getS s a k = ((beN ((s.drop a).take k) : Int), (a : Int) + k, 0) := by unfold getS; rw [if_neg hno, if_neg c5]; simp
  have hl : ((s.drop a).take k).length = k := by simp; omega
  simp (maxSteps := 1000000) (disch := omega) only [rg, gD, Nat.reduceBEq, Nat.reduceEqDiff, Nat.reduceAdd, Int.reduceEq, Int.reduceLT, Int.reduceLE, Int.reduceToNat, reduceIte, reduceCtorEq, Nat.reduceLeDiff, Nat.reduceLT, Nat.reduceMul, Nat.reduceSub, c71, c1, c2, c3, c4, c5]
  refine x_itp k (fun _ => True) (fun i => [(0, .str s), (1, .int .i64 a), (2, .int .i64 k), (9, .int .i64 (beN ((s.drop a).take i))), (10, .int .i64 i)]) trivial rfl ?_
  intro T i hi _ hN hX hR
  simp (maxSteps := 1000000) (disch := omega) only [rg, gD, Nat.reduceBEq, Nat.reduceEqDiff, Nat.reduceAdd, Int.reduceEq, Int.reduceLT, Int.reduceLE, Int.reduceToNat, reduceIte, reduceCtorEq, Nat.reduceLeDiff, Nat.reduceLT, Nat.reduceMul, Nat.reduceSub]
  refine ⟨fun h => ?_, fun h => ?_⟩
  · have i1 : a + i < s.length := by omega
    have h6 : beN ((s.drop a).take i) < 2 ^ 48 := Nat.lt_of_lt_of_le (beN_take_lt s a i) (by
      rw [show (2 : Nat) ^ 48 = 256 ^ 6 from rfl]
      exact Nat.pow_le_pow_right (by omega) (by omega))
    have e3 := wrap_i64 (n := (beN ((s.drop a).take i) : Int) * 256) (by omega) (by omega)
    have hget : s[((a : Int) + i).toNat]? = some s[a + i] := by rw [show ((a : Int) + i).toNat = a + i by omega]; simp [i1]
    have hb := s[a + i].toNat_lt
    simp (maxSteps := 1000000) (disch := omega) only [rg, gD, Nat.reduceBEq, Nat.reduceEqDiff, Nat.reduceAdd, Int.reduceEq, Int.reduceLT, Int.reduceLE, Int.reduceToNat, reduceIte, reduceCtorEq, Nat.reduceLeDiff, Nat.reduceLT, Nat.reduceMul, Nat.reduceSub, e3, hget]
    refine ⟨by omega, hN _ (by omega) trivial ?_⟩
    have : (s.drop a).take (i + 1) = (s.drop a).take i ++ [s[a + i]] := by
      rw [List.take_succ_eq_append_getElem (by simp; omega)]; simp
    rw [this, beN_snoc]
    simp
  · obtain rfl : i = k := by omega
    refine hX _ _ _ ?_
    simp (maxSteps := 1000000) (disch := omega) only [rg, gD, Nat.reduceBEq, Nat.reduceEqDiff, Nat.reduceAdd, Int.reduceEq, Int.reduceLT, Int.reduceLE, Int.reduceToNat, reduceIte, reduceCtorEq, Nat.reduceLeDiff, Nat.reduceLT, Nat.reduceMul, Nat.reduceSub]
    refine x_frz0 ?_
    simp (maxSteps := 1000000) (disch := omega) only [rg, gD, Nat.reduceBEq, Nat.reduceEqDiff, Nat.reduceAdd, Int.reduceEq, Int.reduceLT, Int.reduceLE, Int.reduceToNat, reduceIte, reduceCtorEq, Nat.reduceLeDiff, Nat.reduceLT, Nat.reduceMul, Nat.reduceSub]
    (refine fin_x rfl ?_ ?_ <;> simp [pack, lo, loL, V.closed, closedL, mv_closed, gV, hgs])

theorem ref_cut (s : Str) (at' : Int) (hs : s.length ≤ 1000000000) : PCall Try.prog 72 [.str s, .int .i64 at'] (cV (cutS s at')) := by
  refine en72 (by simp) (by simp [closedL, V.closed]) ?_
  simp (maxSteps := 1000000) (disch := omega) only [rg, gD, Nat.reduceBEq, Nat.reduceEqDiff, Nat.reduceAdd, Int.reduceEq, Int.reduceLT, Int.reduceLE, Int.reduceToNat, reduceIte, reduceCtorEq, Nat.reduceLeDiff, Nat.reduceLT, Nat.reduceMul, Nat.reduceSub, c72]
  refine ⟨_, ref_get s at' 2 hs, ?_⟩
  rcases getS_cases s at' 2 with (e | e) | ⟨h1, h2, h3, h4, e⟩
  · simp (maxSteps := 1000000) (disch := omega) only [rg, gD, Nat.reduceBEq, Nat.reduceEqDiff, Nat.reduceAdd, Int.reduceEq, Int.reduceLT, Int.reduceLE, Int.reduceToNat, reduceIte, reduceCtorEq, Nat.reduceLeDiff, Nat.reduceLT, Nat.reduceMul, Nat.reduceSub, e, gV]
    (refine fin_x rfl ?_ ?_ <;> simp [pack, lo, loL, V.closed, closedL, mv_closed, cV, cutS, e])
  · simp (maxSteps := 1000000) (disch := omega) only [rg, gD, Nat.reduceBEq, Nat.reduceEqDiff, Nat.reduceAdd, Int.reduceEq, Int.reduceLT, Int.reduceLE, Int.reduceToNat, reduceIte, reduceCtorEq, Nat.reduceLeDiff, Nat.reduceLT, Nat.reduceMul, Nat.reduceSub, e, gV]
    (refine fin_x rfl ?_ ?_ <;> simp [pack, lo, loL, V.closed, closedL, mv_closed, cV, cutS, e])
  · have hlt := beN_take_lt s at'.toNat 2
    generalize hn : beN ((s.drop at'.toNat).take (2 : Int).toNat) = n at e
    have hn2 : n < 65536 := by rw [← hn]; exact hlt
    by_cases c : (s.length : Int) - (at' + 2) < n
    · simp (maxSteps := 1000000) (disch := omega) only [rg, gD, Nat.reduceBEq, Nat.reduceEqDiff, Nat.reduceAdd, Int.reduceEq, Int.reduceLT, Int.reduceLE, Int.reduceToNat, reduceIte, reduceCtorEq, Nat.reduceLeDiff, Nat.reduceLT, Nat.reduceMul, Nat.reduceSub, e, gV, c]
      (refine fin_x rfl ?_ ?_ <;> simp [pack, lo, loL, V.closed, closedL, mv_closed, cV, cutS, e, c])
    · simp (maxSteps := 1000000) (disch := omega) only [rg, gD, Nat.reduceBEq, Nat.reduceEqDiff, Nat.reduceAdd, Int.reduceEq, Int.reduceLT, Int.reduceLE, Int.reduceToNat, reduceIte, reduceCtorEq, Nat.reduceLeDiff, Nat.reduceLT, Nat.reduceMul, Nat.reduceSub, e, gV, c]
      refine ⟨by omega, ?_⟩
      have ec : cutS s at' = (List.drop (at' + 2).toNat (List.take (at' + 2 + n).toNat s), at' + 2 + n, 0) := by
        simp only [cutS, e]
        rw [if_neg (by simp), if_neg c, List.drop_take, show (at' + 2 + (n : Int)).toNat - (at' + 2).toNat = n by omega]
        rfl
      (refine fin_x rfl ?_ ?_ <;> simp [pack, lo, loL, V.closed, closedL, mv_closed, cV, ec])

end Go.Proofs.Ytjlpmndipceboaa.Ev
end
