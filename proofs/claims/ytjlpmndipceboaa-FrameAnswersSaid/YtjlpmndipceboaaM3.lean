/-
  Part 3 of what the proof of the statement FrameAnswers leans on: the evaluator, the functions in compact form, and what they answer.
-/
import Derived.Test.YtjlpmndipceboaaM2
import Derived.Test.YtjlpmndipceboaaProg
import Derived.KernelRfl
import Derived.Shelf.Strings.OnBuilder
section
set_option linter.unusedSimpArgs false
namespace Go.Proofs.Ytjlpmndipceboaa.Ev
open Go
/-- `penelope/sum.On` -/
def c87 : C :=
  (.seq
 (.reg false [p (.mov (.k (.int .u32 0)))] [(0, .v 0), (1, .v 1)])
 (.seq
 (.reg false [p (.mov (.v 0)),
 p (.un .xor (.r 0)),
 p (.mov (.r 0))] [(1, .v 1), (5, .r 0)])
 (.seq
 (.seq
 (.reg false [p (.mov (.v 1)),
 p (.stb (.r 0)),
 p (.len false (.r 0)),
 p (.mov (.k (.int .i64 0)))] [(5, .v 5), (11, .r 2), (12, .r 1), (13, .r 0)])
 (.block 0
 (.loop
 (.seq
 (.reg false [p (.bin .lss (.v 13) (.v 12))] [(5, .v 5), (11, .v 11), (12, .v 12), (13, .v 13), (14, .r 0)])
 (.seq
 (.cond (.v 14)
 .skip
 (.exit 0))
 (.seq
 (.block 1
 (.seq
 (.reg false [p (.iad 1 (.v 11) (.v 13)),
 p (.load (none) (.r 0)),
 p (.mov (.r 0))] [(5, .v 5), (7, .r 0), (11, .v 11), (12, .v 12), (13, .v 13)])
 (.seq
 (.reg false [p (.mov (.v 5)),
 p (.mov (.v 7)),
 p (.cvt .u32 (.r 0)),
 p (.bin .xor (.r 2) (.r 0)),
 p (.mov (.r 0))] [(5, .r 0), (11, .v 11), (12, .v 12), (13, .v 13)])
 (.seq
 (.reg false [p (.mov (.k (.int .i64 0)))] [(5, .v 5), (11, .v 11), (12, .v 12), (13, .v 13), (21, .r 0)])
 (.block 2
 (.loop
 (.seq
 (.reg false [p (.bin .lss (.v 21) (.k (.int .i64 8)))] [(5, .v 5), (11, .v 11), (12, .v 12), (13, .v 13), (21, .v 21), (22, .r 0)])
 (.seq
 (.cond (.v 22)
 .skip
 (.exit 2))
 (.seq
 (.block 3
 (.reg false [p (.mov (.v 5)),
 p (.bin .shr (.r 0) (.k (.int .u64 1))),
 p (.mov (.v 5)),
 p (.bin .and (.r 0) (.k (.int .u32 1))),
 p (.un .neg (.r 0)),
 p (.bin .and (.k (.int .u32 2197175160)) (.r 0)),
 p (.bin .xor (.r 4) (.r 0)),
 p (.mov (.r 0))] [(5, .r 0), (11, .v 11), (12, .v 12), (13, .v 13), (21, .v 21)]))
 (.reg false [p (.bin .add (.v 21) (.k (.int .i64 1))),
 p (.mov (.r 0))] [(5, .v 5), (11, .v 11), (12, .v 12), (13, .v 13), (21, .r 0)]))))))))))
 (.frz
 (.reg false [p (.bin .add (.v 13) (.k (.int .i64 1))),
 p (.mov (.r 0))] [(5, .v 5), (11, .v 11), (12, .v 12), (13, .r 0)]))))))))
 (.frz
 (.seq
 (.reg false [p (.mov (.v 5)),
 p (.un .xor (.r 0)),
 p (.mov (.r 0))] [(4, .r 0)])
 .ret)))))
def r87 : List RV := [.t 4]
theorem chk87 : Chk Try.prog Try.f87 c87 r87 := ⟨_, rfl, by kernel_rfl, by kernel_rfl⟩
theorem en87 : EnP Try.prog 87 34 c87 r87 := mkEnP (by kernel_rfl) Try.func87 (by kernel_rfl) chk87

/-- `penelope/sum.Of` -/
def c80 : C :=
  (.seq
 (.reg false [p (.mov (.k (.int .u32 0)))] [(0, .v 0)])
 (.seq
 (.reg false [p (.mov (.k (.int .u32 0)))] [(0, .v 0), (3, .r 0)])
 (.seq
 (.seq
 (.reg false [p (.mov (.v 0)),
 p (.len false (.r 0)),
 p (.mov (.k (.int .i64 0)))] [(3, .v 3), (6, .r 2), (7, .r 1), (8, .r 0)])
 (.block 0
 (.loop
 (.seq
 (.reg false [p (.bin .lss (.v 8) (.v 7))] [(3, .v 3), (6, .v 6), (7, .v 7), (8, .v 8), (9, .r 0)])
 (.seq
 (.cond (.v 9)
 .skip
 (.exit 0))
 (.seq
 (.block 1
 (.seq
 (.reg false [p (.iad 1 (.v 6) (.v 8)),
 p (.load (none) (.r 0)),
 p (.mov (.r 0))] [(3, .v 3), (5, .r 0), (6, .v 6), (7, .v 7), (8, .v 8)])
 (.reg false [p (.mov (.v 3)),
 p (.mov (.v 5)),
 p (.call true (.k (.fn 87 [] [])) [.r 1, .r 0]),
 p (.mov (.r 0))] [(3, .r 0), (6, .v 6), (7, .v 7), (8, .v 8)])))
 (.reg false [p (.bin .add (.v 8) (.k (.int .i64 1))),
 p (.mov (.r 0))] [(3, .v 3), (6, .v 6), (7, .v 7), (8, .r 0)])))))))
 (.frz
 (.seq
 (.reg false [p (.mov (.v 3)),
 p (.mov (.r 0))] [(2, .r 0)])
 .ret)))))
def r80 : List RV := [.t 2]
theorem chk80 : Chk Try.prog Try.f80 c80 r80 := ⟨_, rfl, by kernel_rfl, by kernel_rfl⟩
theorem en80 : EnP Try.prog 80 17 c80 r80 := mkEnP (by kernel_rfl) Try.func80 (by kernel_rfl) chk80

/-- `penelope/sum.Seal` -/
def c56 : C :=
  (.seq
 (.reg false [p (.mov (.k (.str [])))] [(0, .v 0)])
 (.seq
 (.reg false [p (.mov (.v 0)),
 p (.bsl 1 [.r 0]),
 p (.call true (.k (.fn 80 [] [])) [.r 0]),
 p (.mov (.r 0))] [(0, .v 0), (3, .r 0)])
 (.seq
 (.reg false [p (.mov (.v 0)),
 p (.mov (.v 3)),
 p (.cvt .u8 (.r 0)),
 p (.mov (.v 3)),
 p (.bin .shr (.r 0) (.k (.int .u64 8))),
 p (.cvt .u8 (.r 0)),
 p (.mov (.v 3)),
 p (.bin .shr (.r 0) (.k (.int .u64 16))),
 p (.cvt .u8 (.r 0)),
 p (.mov (.v 3)),
 p (.bin .shr (.r 0) (.k (.int .u64 24))),
 p (.cvt .u8 (.r 0)),
 p (.bsl 1 [.r 9, .r 6, .r 3, .r 0]),
 p (.bts (.r 0)),
 p (.bsl 1 [.r 13, .r 0]),
 p (.call true (.k (.fn 24 [] [])) [.r 0]),
 p (.mov (.r 0))] [(2, .r 0)])
 .ret)))
def r56 : List RV := [.t 2]
theorem chk56 : Chk Try.prog Try.f56 c56 r56 := ⟨_, rfl, by kernel_rfl, by kernel_rfl⟩
theorem en56 : EnP Try.prog 56 23 c56 r56 := mkEnP (by kernel_rfl) Try.func56 (by kernel_rfl) chk56

/-- `penelope/sum.Open` -/
def c63 : C :=
  (.seq
 (.reg false [p (.mov (.k (.str []))),
 p (.mov (.k (.int .i64 0)))] [(0, .v 0)])
 (.seq
 (.reg false [p (.mov (.v 0)),
 p (.len true (.r 0)),
 p (.bin .sub (.r 0) (.k (.int .i64 4))),
 p (.mov (.r 0))] [(0, .v 0), (4, .r 0)])
 (.seq
 (.seq
 (.reg false [p (.mov (.v 4)),
 p (.bin .lss (.r 0) (.k (.int .i64 0)))] [(0, .v 0), (4, .v 4), (9, .r 0)])
 (.cond (.v 9)
 (.seq
 (.reg false [p (.mov (.k (.str []))),
 p (.mov (.k (.int .i64 3)))] [(2, .r 1), (3, .r 0)])
 .ret)
 .skip))
 (.seq
 (.seq
 (.reg false [p (.mov (.v 0)),
 p (.mov (.v 4)),
 p (.sls (.r 1) none (some (.r 0))),
 p (.call true (.k (.fn 56 [] [])) [.r 0]),
 p (.mov (.v 0)),
 p (.bin .neq (.r 1) (.r 0))] [(0, .v 0), (4, .v 4), (15, .r 0)])
 (.cond (.v 15)
 (.seq
 (.reg false [p (.mov (.k (.str []))),
 p (.mov (.k (.int .i64 41)))] [(2, .r 1), (3, .r 0)])
 .ret)
 .skip))
 (.seq
 (.reg false [p (.mov (.v 0)),
 p (.mov (.v 4)),
 p (.sls (.r 1) none (some (.r 0))),
 p (.mov (.r 0)),
 p (.mov (.k (.int .i64 0)))] [(2, .r 1), (3, .r 0)])
 .ret)))))
def r63 : List RV := [.t 2, .t 3]
theorem chk63 : Chk Try.prog Try.f63 c63 r63 := ⟨_, rfl, by kernel_rfl, by kernel_rfl⟩
theorem en63 : EnP Try.prog 63 19 c63 r63 := mkEnP (by kernel_rfl) Try.func63 (by kernel_rfl) chk63

/-- `penelope/peneloperef02.On` -/
def c82 : C :=
  (.seq
 (.reg false [p (.mov (.k (.int .u32 0)))] [(0, .v 0), (1, .v 1)])
 (.seq
 (.reg false [p (.mov (.v 0)),
 p (.bin .sub (.k (.int .u32 4294967295)) (.r 0)),
 p (.mov (.r 0))] [(1, .v 1), (5, .r 0)])
 (.seq
 (.seq
 (.reg false [p (.mov (.k (.int .i64 0)))] [(1, .v 1), (5, .v 5), (6, .r 0)])
 (.block 0
 (.loop
 (.seq
 (.seq
 (.reg false [p (.mov (.v 6)),
 p (.mov (.v 1)),
 p (.len true (.r 0)),
 p (.bin .lss (.r 2) (.r 0))] [(1, .v 1), (5, .v 5), (6, .v 6), (15, .r 0)])
 (.cond (.v 15)
 .skip
 (.exit 0)))
 (.seq
 (.block 1
 (.seq
 (.reg false [p (.mov (.k (.int .i64 0)))] [(1, .v 1), (5, .v 5), (6, .v 6), (7, .r 0)])
 (.block 2
 (.loop
 (.seq
 (.seq
 (.reg false [p (.mov (.v 7)),
 p (.bin .lss (.r 0) (.k (.int .i64 8)))] [(1, .v 1), (5, .v 5), (6, .v 6), (7, .v 7), (19, .r 0)])
 (.cond (.v 19)
 .skip
 (.exit 2)))
 (.seq
 (.block 3
 (.seq
 (.reg false [p (.mov (.v 1)),
 p (.mov (.v 6)),
 p (.ixs (.r 1) (.r 0)),
 p (.cvt .u32 (.r 0)),
 p (.mov (.v 7)),
 p (.cvt .u64 (.r 0)),
 p (.bin .shr (.r 2) (.r 0)),
 p (.bin .rem (.r 0) (.k (.int .u32 2))),
 p (.mov (.r 0))] [(1, .v 1), (5, .v 5), (6, .v 6), (7, .v 7), (8, .r 0)])
 (.seq
 (.reg false [p (.mov (.v 5)),
 p (.bin .rem (.r 0) (.k (.int .u32 2))),
 p (.mov (.r 0))] [(1, .v 1), (5, .v 5), (6, .v 6), (7, .v 7), (8, .v 8), (9, .r 0)])
 (.seq
 (.reg false [p (.mov (.v 5)),
 p (.bin .quo (.r 0) (.k (.int .u32 2))),
 p (.mov (.r 0))] [(1, .v 1), (5, .r 0), (6, .v 6), (7, .v 7), (8, .v 8), (9, .v 9)])
 (.seq
 (.reg false [p (.mov (.v 9)),
 p (.mov (.v 8)),
 p (.bin .neq (.r 1) (.r 0))] [(1, .v 1), (5, .v 5), (6, .v 6), (7, .v 7), (36, .r 0)])
 (.cond (.v 36)
 (.reg false [p (.mov (.v 5)),
 p (.bin .xor (.r 0) (.k (.int .u32 2197175160))),
 p (.mov (.r 0))] [(1, .v 1), (5, .r 0), (6, .v 6), (7, .v 7)])
 .skip))))))
 (.reg false [p (.mov (.v 7)),
 p (.bin .add (.r 0) (.k (.int .i64 1))),
 p (.mov (.r 0))] [(1, .v 1), (5, .v 5), (6, .v 6), (7, .r 0)])))))))
 (.frz
 (.reg false [p (.mov (.v 6)),
 p (.bin .add (.r 0) (.k (.int .i64 1))),
 p (.mov (.r 0))] [(1, .v 1), (5, .v 5), (6, .r 0)])))))))
 (.frz
 (.seq
 (.reg false [p (.mov (.v 5)),
 p (.bin .sub (.k (.int .u32 4294967295)) (.r 0)),
 p (.mov (.r 0))] [(4, .r 0)])
 .ret)))))
def r82 : List RV := [.t 4]
theorem chk82 : Chk Try.prog Try.f82 c82 r82 := ⟨_, rfl, by kernel_rfl, by kernel_rfl⟩
theorem en82 : EnP Try.prog 82 41 c82 r82 := mkEnP (by kernel_rfl) Try.func82 (by kernel_rfl) chk82

/-- `penelope/peneloperef02.Of` -/
def c62 : C :=
  (.seq
 (.reg false [p (.mov (.k (.int .u32 0)))] [(0, .v 0)])
 (.seq
 (.reg false [p (.mov (.v 0)),
 p (.call true (.k (.fn 82 [] [])) [.k (.int .u32 0), .r 0]),
 p (.mov (.r 0))] [(2, .r 0)])
 .ret))
def r62 : List RV := [.t 2]
theorem chk62 : Chk Try.prog Try.f62 c62 r62 := ⟨_, rfl, by kernel_rfl, by kernel_rfl⟩
theorem en62 : EnP Try.prog 62 5 c62 r62 := mkEnP (by kernel_rfl) Try.func62 (by kernel_rfl) chk62

/-- `penelope/peneloperef02.Seal` -/
def c33 : C :=
  (.seq
 (.reg false [p (.mov (.k (.str [])))] [(0, .v 0)])
 (.seq
 (.reg false [p (.mov (.v 0)),
 p (.call true (.k (.fn 62 [] [])) [.r 0]),
 p (.mov (.r 0))] [(0, .v 0), (3, .r 0)])
 (.seq
 (.reg false [p (.mov (.v 3)),
 p (.bin .rem (.r 0) (.k (.int .u32 256))),
 p (.cvt .u8 (.r 0)),
 p (.mov (.v 3)),
 p (.bin .quo (.r 0) (.k (.int .u32 256))),
 p (.bin .rem (.r 0) (.k (.int .u32 256))),
 p (.cvt .u8 (.r 0)),
 p (.mov (.v 3)),
 p (.bin .quo (.r 0) (.k (.int .u32 65536))),
 p (.bin .rem (.r 0) (.k (.int .u32 256))),
 p (.cvt .u8 (.r 0)),
 p (.mov (.v 3)),
 p (.bin .quo (.r 0) (.k (.int .u32 16777216))),
 p (.cvt .u8 (.r 0)),
 p (.bsl 1 [.r 11, .r 7, .r 3, .r 0]),
 p (.mov (.r 0))] [(0, .v 0), (4, .r 0)])
 (.seq
 (.reg false [p (.mov (.v 0)),
 p (.mov (.v 4)),
 p (.bts (.r 0)),
 p (.bin .add (.r 2) (.r 0)),
 p (.mov (.r 0))] [(2, .r 0)])
 .ret))))
def r33 : List RV := [.t 2]
theorem chk33 : Chk Try.prog Try.f33 c33 r33 := ⟨_, rfl, by kernel_rfl, by kernel_rfl⟩
theorem en33 : EnP Try.prog 33 26 c33 r33 := mkEnP (by kernel_rfl) Try.func33 (by kernel_rfl) chk33

/-- `penelope/peneloperef02.Open` -/
def c39 : C :=
  (.seq
 (.reg false [p (.mov (.k (.str []))),
 p (.mov (.k (.int .i64 0)))] [(0, .v 0)])
 (.seq
 (.seq
 (.reg false [p (.mov (.v 0)),
 p (.len true (.r 0)),
 p (.bin .lss (.r 0) (.k (.int .i64 4)))] [(0, .v 0), (7, .r 0)])
 (.cond (.v 7)
 (.seq
 (.reg false [p (.mov (.k (.str []))),
 p (.mov (.k (.int .i64 3)))] [(2, .r 1), (3, .r 0)])
 .ret)
 .skip))
 (.seq
 (.reg false [p (.mov (.v 0)),
 p (.mov (.v 0)),
 p (.len true (.r 0)),
 p (.bin .sub (.r 0) (.k (.int .i64 4))),
 p (.sls (.r 3) none (some (.r 0))),
 p (.mov (.r 0))] [(0, .v 0), (4, .r 0)])
 (.seq
 (.seq
 (.reg false [p (.mov (.v 4)),
 p (.call true (.k (.fn 33 [] [])) [.r 0]),
 p (.mov (.v 0)),
 p (.bin .neq (.r 1) (.r 0))] [(4, .v 4), (16, .r 0)])
 (.cond (.v 16)
 (.seq
 (.reg false [p (.mov (.k (.str []))),
 p (.mov (.k (.int .i64 41)))] [(2, .r 1), (3, .r 0)])
 .ret)
 .skip))
 (.seq
 (.reg false [p (.mov (.v 4)),
 p (.mov (.r 0)),
 p (.mov (.k (.int .i64 0)))] [(2, .r 1), (3, .r 0)])
 .ret)))))
def r39 : List RV := [.t 2, .t 3]
theorem chk39 : Chk Try.prog Try.f39 c39 r39 := ⟨_, rfl, by kernel_rfl, by kernel_rfl⟩
theorem en39 : EnP Try.prog 39 18 c39 r39 := mkEnP (by kernel_rfl) Try.func39 (by kernel_rfl) chk39


end Go.Proofs.Ytjlpmndipceboaa.Ev
end
section
set_option linter.unusedSimpArgs false
namespace Go.Proofs.Ytjlpmndipceboaa.Ev
open Go
/-- `slices.IndexFunc[[]int,int]` -/
def c92 : C :=
  (.seq
 (.reg false [p (.mov (.k (.int .i64 0)))] [(0, .v 0), (1, .v 1)])
 (.seq
 (.seq
 (.reg false [p (.mov (.v 0)),
 p (.len false (.r 0)),
 p (.mov (.k (.int .i64 0)))] [(0, .v 0), (1, .v 1), (7, .r 1), (8, .r 0)])
 (.block 0
 (.loop
 (.seq
 (.reg false [p (.bin .lss (.v 8) (.v 7))] [(0, .v 0), (1, .v 1), (7, .v 7), (8, .v 8), (9, .r 0)])
 (.seq
 (.cond (.v 9)
 .skip
 (.exit 0))
 (.seq
 (.block 1
 (.seq
 (.reg false [p (.mov (.v 8)),
 p (.mov (.r 0))] [(0, .v 0), (1, .v 1), (5, .r 0), (7, .v 7), (8, .v 8)])
 (.seq
 (.reg false [p (.mov (.v 1)),
 p (.mov (.v 0)),
 p (.mov (.v 5)),
 p (.iad 1 (.r 1) (.r 0)),
 p (.load (none) (.r 0)),
 p (.call false (.r 4) [.r 0])] [(0, .v 0), (1, .v 1), (5, .v 5), (7, .v 7), (8, .v 8), (16, .r 0)])
 (.cond (.v 16)
 (.seq
 (.reg false [p (.mov (.v 5)),
 p (.mov (.r 0))] [(4, .r 0)])
 .ret)
 .skip))))
 (.reg false [p (.bin .add (.v 8) (.k (.int .i64 1))),
 p (.mov (.r 0))] [(0, .v 0), (1, .v 1), (7, .v 7), (8, .r 0)])))))))
 (.frz
 (.seq
 (.reg false [p (.mov (.k (.int .i64 (-1))))] [(4, .r 0)])
 .ret))))
def r92 : List RV := [.t 4]
theorem chk92 : Chk Try.prog Try.f92 c92 r92 := ⟨_, rfl, by kernel_rfl, by kernel_rfl⟩
theorem ena92 : EnA Try.prog 92 19 c92 r92 := mkEnA (by kernel_rfl) Try.func92 (by kernel_rfl) chk92
theorem en92 : EnP Try.prog 92 19 c92 r92 := mkEnP (by kernel_rfl) Try.func92 (by kernel_rfl) chk92

/-- `slices.ContainsFunc[[]int,int]` -/
def c89 : C :=
  (.seq
 (.reg false [p (.mov (.k (.bool false)))] [(0, .v 0), (1, .v 1)])
 (.seq
 (.reg false [p (.mov (.v 0)),
 p (.mov (.v 1)),
 p (.call false (.k (.fn 92 [] [])) [.r 1, .r 0]),
 p (.bin .geq (.r 0) (.k (.int .i64 0))),
 p (.mov (.r 0))] [(4, .r 0)])
 .ret))
def r89 : List RV := [.t 4]
theorem chk89 : Chk Try.prog Try.f89 c89 r89 := ⟨_, rfl, by kernel_rfl, by kernel_rfl⟩
theorem ena89 : EnA Try.prog 89 9 c89 r89 := mkEnA (by kernel_rfl) Try.func89 (by kernel_rfl) chk89
theorem en89 : EnP Try.prog 89 9 c89 r89 := mkEnP (by kernel_rfl) Try.func89 (by kernel_rfl) chk89

/-- `slices.IndexFunc[[]penelope/api.Task,penelope/api.Task]` -/
def c83 : C :=
  (.seq
 (.reg false [p (.mov (.k (.int .i64 0)))] [(0, .v 0), (1, .v 1)])
 (.seq
 (.seq
 (.reg false [p (.mov (.v 0)),
 p (.len false (.r 0)),
 p (.mov (.k (.int .i64 0)))] [(0, .v 0), (1, .v 1), (7, .r 1), (8, .r 0)])
 (.block 0
 (.loop
 (.seq
 (.reg false [p (.bin .lss (.v 8) (.v 7))] [(0, .v 0), (1, .v 1), (7, .v 7), (8, .v 8), (9, .r 0)])
 (.seq
 (.cond (.v 9)
 .skip
 (.exit 0))
 (.seq
 (.block 1
 (.seq
 (.reg false [p (.mov (.v 8)),
 p (.mov (.r 0))] [(0, .v 0), (1, .v 1), (5, .r 0), (7, .v 7), (8, .v 8)])
 (.seq
 (.reg false [p (.mov (.v 1)),
 p (.mov (.v 0)),
 p (.mov (.v 5)),
 p (.iad 4 (.r 1) (.r 0)),
 p (.load (some 4) (.r 0)),
 p (.call false (.r 4) [.r 0])] [(0, .v 0), (1, .v 1), (5, .v 5), (7, .v 7), (8, .v 8), (16, .r 0)])
 (.cond (.v 16)
 (.seq
 (.reg false [p (.mov (.v 5)),
 p (.mov (.r 0))] [(4, .r 0)])
 .ret)
 .skip))))
 (.reg false [p (.bin .add (.v 8) (.k (.int .i64 1))),
 p (.mov (.r 0))] [(0, .v 0), (1, .v 1), (7, .v 7), (8, .r 0)])))))))
 (.frz
 (.seq
 (.reg false [p (.mov (.k (.int .i64 (-1))))] [(4, .r 0)])
 .ret))))
def r83 : List RV := [.t 4]
theorem chk83 : Chk Try.prog Try.f83 c83 r83 := ⟨_, rfl, by kernel_rfl, by kernel_rfl⟩
theorem ena83 : EnA Try.prog 83 19 c83 r83 := mkEnA (by kernel_rfl) Try.func83 (by kernel_rfl) chk83
theorem en83 : EnP Try.prog 83 19 c83 r83 := mkEnP (by kernel_rfl) Try.func83 (by kernel_rfl) chk83

/-- `slices.ContainsFunc[[]penelope/api.Task,penelope/api.Task]` -/
def c73 : C :=
  (.seq
 (.reg false [p (.mov (.k (.bool false)))] [(0, .v 0), (1, .v 1)])
 (.seq
 (.reg false [p (.mov (.v 0)),
 p (.mov (.v 1)),
 p (.call false (.k (.fn 83 [] [])) [.r 1, .r 0]),
 p (.bin .geq (.r 0) (.k (.int .i64 0))),
 p (.mov (.r 0))] [(4, .r 0)])
 .ret))
def r73 : List RV := [.t 4]
theorem chk73 : Chk Try.prog Try.f73 c73 r73 := ⟨_, rfl, by kernel_rfl, by kernel_rfl⟩
theorem ena73 : EnA Try.prog 73 9 c73 r73 := mkEnA (by kernel_rfl) Try.func73 (by kernel_rfl) chk73
theorem en73 : EnP Try.prog 73 9 c73 r73 := mkEnP (by kernel_rfl) Try.func73 (by kernel_rfl) chk73

/-- `penelope/dag.task` -/
def c75 : C :=
  (.seq
 (.reg false [p (.box 4 (.v 0)),
 p (.mov (.k (.bool false)))] [(1, .v 1), (2, .r 1)])
 (.seq
 (.reg false [p (.mov (.k (.int .i64 (-1))))] [(1, .v 1), (2, .v 2), (5, .r 0)])
 (.seq
 (.seq
 (.reg false [p (.fad 0 (.v 2)),
 p (.load (none) (.r 0)),
 p (.len false (.r 0)),
 p (.mov (.k (.int .i64 0)))] [(1, .v 1), (2, .v 2), (5, .v 5), (9, .r 2), (10, .r 1), (11, .r 0)])
 (.block 0
 (.loop
 (.seq
 (.reg false [p (.bin .lss (.v 11) (.v 10))] [(1, .v 1), (2, .v 2), (5, .v 5), (9, .v 9), (10, .v 10), (11, .v 11), (12, .r 0)])
 (.seq
 (.cond (.v 12)
 .skip
 (.exit 0))
 (.seq
 (.block 1
 (.seq
 (.reg false [p (.iad 1 (.v 9) (.v 11)),
 p (.load (none) (.r 0)),
 p (.mov (.r 0))] [(1, .v 1), (2, .v 2), (5, .v 5), (7, .r 0), (9, .v 9), (10, .v 10), (11, .v 11)])
 (.seq
 (.seq
 (.reg false [p (.mov (.v 7)),
 p (.mov (.v 5)),
 p (.bin .leq (.r 1) (.r 0)),
 p (.mov (.r 0)),
 ⟨.mov (.v 7), some (0, false), []⟩,
 ⟨.mov (.v 1), some (1, false), []⟩,
 ⟨.bin .geq (.r 1) (.r 0), some (2, false), []⟩,
 p (.pick (.r 3) (.k (.bool true)) (.r 0))] [(1, .v 1), (2, .v 2), (7, .v 7), (9, .v 9), (10, .v 10), (11, .v 11), (22, .r 0)])
 (.cond (.v 22)
 (.seq
 (.reg false [p (.mov (.k (.bool false)))] [(4, .r 0)])
 .ret)
 .skip))
 (.reg false [p (.mov (.v 7)),
 p (.mov (.r 0))] [(1, .v 1), (2, .v 2), (5, .r 0), (9, .v 9), (10, .v 10), (11, .v 11)]))))
 (.reg false [p (.bin .add (.v 11) (.k (.int .i64 1))),
 p (.mov (.r 0))] [(1, .v 1), (2, .v 2), (5, .v 5), (9, .v 9), (10, .v 10), (11, .r 0)])))))))
 (.frz
 (.seq
 (.reg false [p (.fad 1 (.v 2)),
 p (.load (none) (.r 0)),
 p (.bin .geq (.r 0) (.k (.int .i64 1))),
 p (.mov (.r 0)),
 ⟨.fad 1 (.v 2), some (0, true), []⟩,
 ⟨.load (none) (.r 0), some (1, true), []⟩,
 ⟨.bin .leq (.r 0) (.k (.int .i64 8)), some (2, true), []⟩,
 p (.pick (.r 3) (.r 0) (.k (.bool false))),
 p (.mov (.r 0)),
 ⟨.fad 2 (.v 2), some (0, true), []⟩,
 ⟨.load (none) (.r 0), some (1, true), []⟩,
 ⟨.bin .geq (.r 0) (.k (.int .i64 0)), some (2, true), []⟩,
 p (.pick (.r 3) (.r 0) (.k (.bool false))),
 p (.mov (.r 0)),
 ⟨.fad 2 (.v 2), some (0, true), []⟩,
 ⟨.load (none) (.r 0), some (1, true), []⟩,
 ⟨.bin .leq (.r 0) (.k (.int .i64 1048576)), some (2, true), []⟩,
 p (.pick (.r 3) (.r 0) (.k (.bool false))),
 p (.mov (.r 0)),
 ⟨.fad 3 (.v 2), some (0, true), []⟩,
 ⟨.load (none) (.r 0), some (1, true), []⟩,
 ⟨.bin .geq (.r 0) (.k (.int .i64 1)), some (2, true), []⟩,
 p (.pick (.r 3) (.r 0) (.k (.bool false))),
 p (.mov (.r 0)),
 ⟨.fad 3 (.v 2), some (0, true), []⟩,
 ⟨.load (none) (.r 0), some (1, true), []⟩,
 ⟨.bin .leq (.r 0) (.k (.int .i64 1048576)), some (2, true), []⟩,
 p (.pick (.r 3) (.r 0) (.k (.bool false))),
 p (.mov (.r 0))] [(4, .r 0)])
 .ret)))))
def r75 : List RV := [.t 4]
theorem chk75 : Chk Try.prog Try.f75 c75 r75 := ⟨_, rfl, by kernel_rfl, by kernel_rfl⟩
theorem en75 : EnP Try.prog 75 53 c75 r75 := mkEnP (by kernel_rfl) Try.func75 (by kernel_rfl) chk75

/-- `penelope/dag.free$1` -/
def c88 : C :=
  (.seq
 (.reg false [p (.mov (.k (.bool false)))] [(0, .v 0), (1, .v 1)])
 (.seq
 (.reg false [p (.load (none) (.v 1)),
 p (.mov (.v 0)),
 p (.iad 1 (.r 1) (.r 0)),
 p (.load (none) (.r 0)),
 p (.un .not (.r 0)),
 p (.mov (.r 0))] [(3, .r 0)])
 .ret))
def r88 : List RV := [.t 3]
theorem chk88 : Chk Try.prog Try.f88 c88 r88 := ⟨_, rfl, by kernel_rfl, by kernel_rfl⟩
theorem ena88 : EnA Try.prog 88 9 c88 r88 := mkEnA (by kernel_rfl) Try.func88 (by kernel_rfl) chk88
theorem en88 : EnP Try.prog 88 9 c88 r88 := mkEnP (by kernel_rfl) Try.func88 (by kernel_rfl) chk88

/-- `penelope/dag.free` -/
def c84 : C :=
  (.seq
 (.reg false [p (.box 1 (.v 1)),
 p (.mov (.k (.fsl .nil 1 [])))] [(0, .v 0), (3, .r 1)])
 (.seq
 (.reg false [p (.mkf 88 [] [.v 3]),
 p (.mov (.r 0))] [(0, .v 0), (5, .r 0)])
 (.seq
 (.reg false [p (.mov (.k (.fsl .nil 1 [])))] [(0, .v 0), (5, .v 5), (6, .r 0)])
 (.seq
 (.seq
 (.reg false [p (.mov (.v 0)),
 p (.len false (.r 0)),
 p (.mov (.k (.int .i64 0)))] [(5, .v 5), (6, .v 6), (10, .r 2), (11, .r 1), (12, .r 0)])
 (.block 0
 (.loop
 (.seq
 (.reg false [p (.bin .lss (.v 12) (.v 11))] [(5, .v 5), (6, .v 6), (10, .v 10), (11, .v 11), (12, .v 12), (13, .r 0)])
 (.seq
 (.cond (.v 13)
 .skip
 (.exit 0))
 (.seq
 (.block 1
 (.seq
 (.reg false [p (.mov (.v 12)),
 p (.iad 4 (.v 10) (.v 12)),
 p (.load (some 4) (.r 0)),
 p (.alloc 4 (.agg [.fsl .nil 1 [], .int .i64 0, .int .i64 0, .int .i64 0])),
 p (.mov (.r 3)),
 p (.store (some 4) (.r 1) (.r 2))] [(5, .v 5), (6, .v 6), (7, .r 1), (8, .r 2), (10, .v 10), (11, .v 11), (12, .v 12)])
 (.seq
 (.reg false [p (.mov (.v 5)),
 p (.mov (.v 7)),
 p (.call false (.r 1) [.r 0]),
 p (.mov (.r 0)),
 ⟨.fad 0 (.v 8), some (0, true), []⟩,
 ⟨.load (none) (.r 0), some (1, true), []⟩,
 ⟨.mov (.v 5), some (2, true), []⟩,
 ⟨.call false (.k (.fn 89 [] [])) [.r 1, .r 0], some (3, true), []⟩,
 ⟨.un .not (.r 0), some (4, true), []⟩,
 p (.pick (.r 5) (.r 0) (.k (.bool false)))] [(5, .v 5), (6, .v 6), (7, .v 7), (10, .v 10), (11, .v 11), (12, .v 12), (26, .r 0)])
 (.cond (.v 26)
 (.reg false [p (.mov (.v 6)),
 p (.mov (.v 7)),
 p (.bsl 1 [.r 0]),
 p (.app 1 8 (.r 2) (.r 0)),
 p (.mov (.r 0))] [(5, .v 5), (6, .r 0), (10, .v 10), (11, .v 11), (12, .v 12)])
 .skip))))
 (.reg false [p (.bin .add (.v 12) (.k (.int .i64 1))),
 p (.mov (.r 0))] [(5, .v 5), (6, .v 6), (10, .v 10), (11, .v 11), (12, .r 0)])))))))
 (.frz
 (.seq
 (.reg false [p (.mov (.v 6)),
 p (.mov (.r 0))] [(4, .r 0)])
 .ret))))))
def r84 : List RV := [.t 4]
theorem chk84 : Chk Try.prog Try.f84 c84 r84 := ⟨_, rfl, by kernel_rfl, by kernel_rfl⟩
theorem ena84 : EnA Try.prog 84 33 c84 r84 := mkEnA (by kernel_rfl) Try.func84 (by kernel_rfl) chk84
theorem en84 : EnP Try.prog 84 33 c84 r84 := mkEnP (by kernel_rfl) Try.func84 (by kernel_rfl) chk84

/-- `penelope/dag.order` -/
def c76 : C :=
  (.seq
 (.reg false [p (.mov (.k (.fsl .nil 1 [])))] [(0, .v 0)])
 (.seq
 (.reg false [p (.mov (.v 0)),
 p (.len false (.r 0)),
 p (.mks 1 1 (.bool false) (.r 0)),
 p (.mov (.r 0))] [(0, .v 0), (3, .r 0)])
 (.seq
 (.reg false [p (.mov (.k (.fsl .nil 1 [])))] [(0, .v 0), (3, .v 3), (4, .r 0)])
 (.block 0
 (.loop
 (.block 1
 (.seq
 (.reg false [p (.mov (.v 0)),
 p (.mov (.v 3)),
 p (.call false (.k (.fn 84 [] [])) [.r 1, .r 0]),
 p (.mov (.r 0))] [(0, .v 0), (3, .v 3), (4, .v 4), (5, .r 0)])
 (.seq
 (.seq
 (.reg false [p (.mov (.v 5)),
 p (.len false (.r 0)),
 p (.bin .eql (.r 0) (.k (.int .i64 0)))] [(0, .v 0), (3, .v 3), (4, .v 4), (5, .v 5), (14, .r 0)])
 (.cond (.v 14)
 (.seq
 (.reg false [p (.mov (.v 4)),
 p (.mov (.r 0))] [(2, .r 0)])
 .ret)
 .skip))
 (.seq
 (.reg false [p (.mov (.v 3)),
 p (.mov (.v 5)),
 p (.iad 1 (.r 0) (.k (.int .i64 0))),
 p (.load (none) (.r 0)),
 p (.iad 1 (.r 3) (.r 0)),
 p (.store (none) (.r 0) (.k (.bool true)))] [(0, .v 0), (3, .v 3), (4, .v 4), (5, .v 5)])
 (.reg false [p (.mov (.v 4)),
 p (.mov (.v 5)),
 p (.iad 1 (.r 0) (.k (.int .i64 0))),
 p (.load (none) (.r 0)),
 p (.bsl 1 [.r 0]),
 p (.app 1 8 (.r 4) (.r 0)),
 p (.mov (.r 0))] [(0, .v 0), (3, .v 3), (4, .r 0)]))))))))))
def r76 : List RV := [.t 2]
theorem chk76 : Chk Try.prog Try.f76 c76 r76 := ⟨_, rfl, by kernel_rfl, by kernel_rfl⟩
theorem en76 : EnP Try.prog 76 27 c76 r76 := mkEnP (by kernel_rfl) Try.func76 (by kernel_rfl) chk76

/-- `penelope/dag.Right$1` -/
def c74 : C :=
  (.seq
 (.reg false [p (.box 4 (.v 0)),
 p (.mov (.k (.bool false)))] [(1, .v 1), (2, .r 1)])
 (.seq
 (.reg false [p (.load (some 4) (.v 2)),
 p (.load (none) (.v 1)),
 p (.call true (.k (.fn 75 [] [])) [.r 1, .r 0]),
 p (.un .not (.r 0)),
 p (.mov (.r 0))] [(3, .r 0)])
 .ret))
def r74 : List RV := [.t 3]
theorem chk74 : Chk Try.prog Try.f74 c74 r74 := ⟨_, rfl, by kernel_rfl, by kernel_rfl⟩
theorem ena74 : EnA Try.prog 74 8 c74 r74 := mkEnA (by kernel_rfl) Try.func74 (by kernel_rfl) chk74
theorem en74 : EnP Try.prog 74 8 c74 r74 := mkEnP (by kernel_rfl) Try.func74 (by kernel_rfl) chk74

/-- `penelope/dag.Right` -/
def c52 : C :=
  (.seq
 (.reg false [p (.box 2 (.v 0)),
 p (.mov (.k (.int .i64 0)))] [(1, .r 1)])
 (.seq
 (.reg false [p (.fad 1 (.v 1)),
 p (.load (none) (.r 0)),
 p (.len false (.r 0)),
 p (.alloc 1 (.int .i64 0)),
 p (.store (none) (.r 0) (.r 1))] [(1, .v 1), (3, .r 1)])
 (.seq
 (.block 0
 (.seq
 (.reg false [p (.load (none) (.v 3)),
 p (.bin .gtr (.r 0) (.k (.int .i64 10))),
 p (.mov (.r 0))] [(1, .v 1), (3, .v 3), (7, .r 0)])
 (.cond (.v 7)
 (.seq
 (.reg false [p (.mov (.k (.int .i64 2)))] [(2, .r 0)])
 .ret)
 (.seq
 (.reg false [p (.load (none) (.v 3)),
 p (.bin .lss (.r 0) (.k (.int .i64 1))),
 p (.mov (.r 0)),
 ⟨.fad 0 (.v 1), some (0, false), []⟩,
 ⟨.load (none) (.r 0), some (1, false), []⟩,
 ⟨.len true (.r 0), some (2, false), []⟩,
 ⟨.bin .lss (.r 0) (.k (.int .i64 1)), some (3, false), []⟩,
 p (.pick (.r 4) (.k (.bool true)) (.r 0)),
 p (.mov (.r 0)),
 ⟨.fad 0 (.v 1), some (0, false), []⟩,
 ⟨.load (none) (.r 0), some (1, false), []⟩,
 ⟨.len true (.r 0), some (2, false), []⟩,
 ⟨.bin .gtr (.r 0) (.k (.int .i64 16)), some (3, false), []⟩,
 p (.pick (.r 4) (.k (.bool true)) (.r 0)),
 p (.mov (.r 0)),
 ⟨.fad 1 (.v 1), some (0, false), []⟩,
 ⟨.load (none) (.r 0), some (1, false), []⟩,
 ⟨.mkf 74 [] [.v 3], some (2, false), []⟩,
 ⟨.call false (.k (.fn 73 [] [])) [.r 1, .r 0], some (3, false), []⟩,
 p (.pick (.r 4) (.k (.bool true)) (.r 0)),
 p (.mov (.r 0))] [(1, .v 1), (3, .v 3), (10, .r 0)])
 (.cond (.v 10)
 (.seq
 (.reg false [p (.mov (.k (.int .i64 1)))] [(2, .r 0)])
 .ret)
 (.seq
 (.reg true [p (.fad 1 (.v 1)),
 p (.load (none) (.r 0)),
 p (.call true (.k (.fn 76 [] [])) [.r 0]),
 p (.len false (.r 0)),
 p (.load (none) (.v 3)),
 p (.bin .lss (.r 1) (.r 0)),
 p (.mov (.r 0))] [(31, .r 0)])
 (.cond (.v 31)
 (.seq
 (.reg false [p (.mov (.k (.int .i64 160)))] [(2, .r 0)])
 .ret)
 .skip)))))))
 (.seq
 (.reg false [p (.mov (.k (.int .i64 0)))] [(2, .r 0)])
 .ret))))
def r52 : List RV := [.t 2]
theorem chk52 : Chk Try.prog Try.f52 c52 r52 := ⟨_, rfl, by kernel_rfl, by kernel_rfl⟩
theorem en52 : EnP Try.prog 52 38 c52 r52 := mkEnP (by kernel_rfl) Try.func52 (by kernel_rfl) chk52

/-- `penelope/peneloperef16.shaped` -/
def c57 : C :=
  (.seq
 (.reg false [p (.box 2 (.v 0)),
 p (.mov (.k (.bool false)))] [(1, .r 1)])
 (.seq
 (.reg false [p (.fad 1 (.v 1)),
 p (.load (none) (.r 0)),
 p (.len false (.r 0)),
 p (.mov (.r 0))] [(1, .v 1), (3, .r 0)])
 (.seq
 (.seq
 (.reg false [p (.mov (.v 3)),
 p (.bin .lss (.r 0) (.k (.int .i64 1))),
 p (.mov (.r 0)),
 ⟨.fad 0 (.v 1), some (0, false), []⟩,
 ⟨.load (none) (.r 0), some (1, false), []⟩,
 ⟨.len true (.r 0), some (2, false), []⟩,
 ⟨.bin .lss (.r 0) (.k (.int .i64 1)), some (3, false), []⟩,
 p (.pick (.r 4) (.k (.bool true)) (.r 0)),
 p (.mov (.r 0)),
 ⟨.fad 0 (.v 1), some (0, false), []⟩,
 ⟨.load (none) (.r 0), some (1, false), []⟩,
 ⟨.len true (.r 0), some (2, false), []⟩,
 ⟨.bin .gtr (.r 0) (.k (.int .i64 16)), some (3, false), []⟩,
 p (.pick (.r 4) (.k (.bool true)) (.r 0))] [(1, .v 1), (3, .v 3), (24, .r 0)])
 (.cond (.v 24)
 (.seq
 (.reg false [p (.mov (.k (.bool false)))] [(2, .r 0)])
 .ret)
 .skip))
 (.seq
 (.seq
 (.reg false [p (.fad 1 (.v 1)),
 p (.load (none) (.r 0)),
 p (.len false (.r 0)),
 p (.mov (.k (.int .i64 0)))] [(3, .v 3), (26, .r 2), (27, .r 1), (28, .r 0)])
 (.block 0
 (.loop
 (.seq
 (.reg false [p (.bin .lss (.v 28) (.v 27))] [(3, .v 3), (26, .v 26), (27, .v 27), (28, .v 28), (29, .r 0)])
 (.seq
 (.cond (.v 29)
 .skip
 (.exit 0))
 (.seq
 (.block 1
 (.seq
 (.reg false [p (.iad 4 (.v 26) (.v 28)),
 p (.load (some 4) (.r 0)),
 p (.alloc 4 (.agg [.fsl .nil 1 [], .int .i64 0, .int .i64 0, .int .i64 0])),
 p (.store (some 4) (.r 0) (.r 1))] [(3, .v 3), (5, .r 1), (26, .v 26), (27, .v 27), (28, .v 28)])
 (.seq
 (.seq
 (.reg false [p (.fad 0 (.v 5)),
 p (.load (none) (.r 0)),
 p (.len false (.r 0)),
 p (.mov (.k (.int .i64 0)))] [(3, .v 3), (5, .v 5), (26, .v 26), (27, .v 27), (28, .v 28), (33, .r 2), (34, .r 1), (35, .r 0)])
 (.block 2
 (.loop
 (.seq
 (.reg false [p (.bin .lss (.v 35) (.v 34))] [(3, .v 3), (5, .v 5), (26, .v 26), (27, .v 27), (28, .v 28), (33, .v 33), (34, .v 34), (35, .v 35), (36, .r 0)])
 (.seq
 (.cond (.v 36)
 .skip
 (.exit 2))
 (.seq
 (.block 3
 (.seq
 (.reg false [p (.mov (.v 35)),
 p (.iad 1 (.v 33) (.v 35)),
 p (.load (none) (.r 0)),
 p (.mov (.r 2)),
 p (.mov (.r 1))] [(3, .v 3), (5, .v 5), (6, .r 1), (7, .r 0), (26, .v 26), (27, .v 27), (28, .v 28), (33, .v 33), (34, .v 34), (35, .v 35)])
 (.seq
 (.reg false [p (.mov (.v 7)),
 p (.bin .lss (.r 0) (.k (.int .i64 0))),
 p (.mov (.r 0)),
 ⟨.mov (.v 7), some (0, false), []⟩,
 ⟨.mov (.v 3), some (1, false), []⟩,
 ⟨.bin .geq (.r 1) (.r 0), some (2, false), []⟩,
 p (.pick (.r 3) (.k (.bool true)) (.r 0)),
 p (.mov (.r 0)),
 ⟨.mov (.v 6), some (0, false), []⟩,
 ⟨.bin .gtr (.r 0) (.k (.int .i64 0)), some (1, false), []⟩,
 ⟨.mov (.r 0), some (2, false), []⟩,
 ⟨.mov (.v 7), some (0, true), []⟩,
 ⟨.fad 0 (.v 5), some (1, true), []⟩,
 ⟨.load (none) (.r 0), some (2, true), []⟩,
 ⟨.mov (.v 6), some (3, true), []⟩,
 ⟨.bin .sub (.r 0) (.k (.int .i64 1)), some (4, true), []⟩,
 ⟨.iad 1 (.r 2) (.r 0), some (5, true), []⟩,
 ⟨.load (none) (.r 0), some (6, true), []⟩,
 ⟨.bin .leq (.r 6) (.r 0), some (7, true), []⟩,
 ⟨.pick (.r 8) (.r 0) (.k (.bool false)), some (11, false), []⟩,
 p (.pick (.r 12) (.k (.bool true)) (.r 0))] [(3, .v 3), (5, .v 5), (26, .v 26), (27, .v 27), (28, .v 28), (33, .v 33), (34, .v 34), (35, .v 35), (60, .r 0)])
 (.cond (.v 60)
 (.seq
 (.reg false [p (.mov (.k (.bool false)))] [(2, .r 0)])
 .ret)
 .skip))))
 (.reg false [p (.bin .add (.v 35) (.k (.int .i64 1))),
 p (.mov (.r 0))] [(3, .v 3), (5, .v 5), (26, .v 26), (27, .v 27), (28, .v 28), (33, .v 33), (34, .v 34), (35, .r 0)])))))))
 (.frz
 (.seq
 (.reg false [p (.fad 1 (.v 5)),
 p (.load (none) (.r 0)),
 p (.bin .lss (.r 0) (.k (.int .i64 1))),
 p (.mov (.r 0)),
 ⟨.fad 1 (.v 5), some (0, false), []⟩,
 ⟨.load (none) (.r 0), some (1, false), []⟩,
 ⟨.bin .gtr (.r 0) (.k (.int .i64 8)), some (2, false), []⟩,
 p (.pick (.r 3) (.k (.bool true)) (.r 0)),
 p (.mov (.r 0)),
 ⟨.fad 2 (.v 5), some (0, false), []⟩,
 ⟨.load (none) (.r 0), some (1, false), []⟩,
 ⟨.bin .lss (.r 0) (.k (.int .i64 0)), some (2, false), []⟩,
 p (.pick (.r 3) (.k (.bool true)) (.r 0)),
 p (.mov (.r 0)),
 ⟨.fad 2 (.v 5), some (0, false), []⟩,
 ⟨.load (none) (.r 0), some (1, false), []⟩,
 ⟨.bin .gtr (.r 0) (.k (.int .i64 1048576)), some (2, false), []⟩,
 p (.pick (.r 3) (.k (.bool true)) (.r 0)),
 p (.mov (.r 0)),
 ⟨.fad 3 (.v 5), some (0, false), []⟩,
 ⟨.load (none) (.r 0), some (1, false), []⟩,
 ⟨.bin .lss (.r 0) (.k (.int .i64 1)), some (2, false), []⟩,
 p (.pick (.r 3) (.k (.bool true)) (.r 0)),
 p (.mov (.r 0)),
 ⟨.fad 3 (.v 5), some (0, false), []⟩,
 ⟨.load (none) (.r 0), some (1, false), []⟩,
 ⟨.bin .gtr (.r 0) (.k (.int .i64 1048576)), some (2, false), []⟩,
 p (.pick (.r 3) (.k (.bool true)) (.r 0))] [(3, .v 3), (26, .v 26), (27, .v 27), (28, .v 28), (89, .r 0)])
 (.cond (.v 89)
 (.seq
 (.reg false [p (.mov (.k (.bool false)))] [(2, .r 0)])
 .ret)
 .skip))))))
 (.frz
 (.reg false [p (.bin .add (.v 28) (.k (.int .i64 1))),
 p (.mov (.r 0))] [(3, .v 3), (26, .v 26), (27, .v 27), (28, .r 0)]))))))))
 (.frz
 (.seq
 (.reg false [p (.mov (.k (.bool true)))] [(2, .r 0)])
 .ret))))))
def r57 : List RV := [.t 2]
theorem chk57 : Chk Try.prog Try.f57 c57 r57 := ⟨_, rfl, by kernel_rfl, by kernel_rfl⟩
theorem en57 : EnP Try.prog 57 91 c57 r57 := mkEnP (by kernel_rfl) Try.func57 (by kernel_rfl) chk57

/-- `penelope/peneloperef16.reach` -/
def c58 : C :=
  (.seq
 (.reg false [p (.box 2 (.v 0)),
 p (.mov (.k (.fsl .nil 1 [])))] [(1, .v 1), (2, .r 1)])
 (.seq
 (.reg false [p (.fad 1 (.v 2)),
 p (.load (none) (.r 0)),
 p (.len false (.r 0)),
 p (.mks 1 1 (.bool false) (.r 0)),
 p (.mov (.r 0))] [(1, .v 1), (2, .v 2), (5, .r 0)])
 (.seq
 (.seq
 (.reg false [p (.fad 1 (.v 2)),
 p (.load (none) (.r 0)),
 p (.mov (.v 1)),
 p (.iad 4 (.r 1) (.r 0)),
 p (.fad 0 (.r 0)),
 p (.load (none) (.r 0)),
 p (.len false (.r 0)),
 p (.mov (.k (.int .i64 0)))] [(2, .v 2), (5, .v 5), (22, .r 2), (23, .r 1), (24, .r 0)])
 (.block 0
 (.loop
 (.seq
 (.reg false [p (.bin .lss (.v 24) (.v 23))] [(2, .v 2), (5, .v 5), (22, .v 22), (23, .v 23), (24, .v 24), (25, .r 0)])
 (.seq
 (.cond (.v 25)
 .skip
 (.exit 0))
 (.seq
 (.block 1
 (.seq
 (.reg false [p (.iad 1 (.v 22) (.v 24)),
 p (.load (none) (.r 0)),
 p (.mov (.r 0))] [(2, .v 2), (5, .v 5), (7, .r 0), (22, .v 22), (23, .v 23), (24, .v 24)])
 (.reg false [p (.mov (.v 5)),
 p (.mov (.v 7)),
 p (.iad 1 (.r 1) (.r 0)),
 p (.store (none) (.r 0) (.k (.bool true)))] [(2, .v 2), (5, .v 5), (22, .v 22), (23, .v 23), (24, .v 24)])))
 (.reg false [p (.bin .add (.v 24) (.k (.int .i64 1))),
 p (.mov (.r 0))] [(2, .v 2), (5, .v 5), (22, .v 22), (23, .v 23), (24, .r 0)])))))))
 (.frz
 (.seq
 (.seq
 (.reg false [p (.mov (.k (.int .i64 0)))] [(2, .v 2), (5, .v 5), (8, .r 0)])
 (.block 2
 (.loop
 (.seq
 (.seq
 (.reg false [p (.mov (.v 8)),
 p (.fad 1 (.v 2)),
 p (.load (none) (.r 0)),
 p (.len false (.r 0)),
 p (.bin .lss (.r 3) (.r 0))] [(2, .v 2), (5, .v 5), (8, .v 8), (36, .r 0)])
 (.cond (.v 36)
 .skip
 (.exit 2)))
 (.seq
 (.block 3
 (.seq
 (.reg false [p (.fad 1 (.v 2)),
 p (.load (none) (.r 0)),
 p (.len false (.r 0)),
 p (.mov (.k (.int .i64 0)))] [(2, .v 2), (5, .v 5), (8, .v 8), (40, .r 2), (41, .r 1), (42, .r 0)])
 (.block 4
 (.loop
 (.seq
 (.reg false [p (.bin .lss (.v 42) (.v 41))] [(2, .v 2), (5, .v 5), (8, .v 8), (40, .v 40), (41, .v 41), (42, .v 42), (43, .r 0)])
 (.seq
 (.cond (.v 43)
 .skip
 (.exit 4))
 (.seq
 (.block 5
 (.seq
 (.reg false [p (.mov (.v 42)),
 p (.iad 4 (.v 40) (.v 42)),
 p (.load (some 4) (.r 0)),
 p (.alloc 4 (.agg [.fsl .nil 1 [], .int .i64 0, .int .i64 0, .int .i64 0])),
 p (.mov (.r 3)),
 p (.store (some 4) (.r 1) (.r 2))] [(2, .v 2), (5, .v 5), (8, .v 8), (9, .r 1), (10, .r 2), (40, .v 40), (41, .v 41), (42, .v 42)])
 (.seq
 (.reg false [p (.mov (.v 5)),
 p (.mov (.v 9)),
 p (.iad 1 (.r 1) (.r 0)),
 p (.load (none) (.r 0))] [(2, .v 2), (5, .v 5), (8, .v 8), (10, .v 10), (40, .v 40), (41, .v 41), (42, .v 42), (50, .r 0)])
 (.cond (.v 50)
 (.seq
 (.reg false [p (.fad 0 (.v 10)),
 p (.load (none) (.r 0)),
 p (.len false (.r 0)),
 p (.mov (.k (.int .i64 0)))] [(2, .v 2), (5, .v 5), (8, .v 8), (40, .v 40), (41, .v 41), (42, .v 42), (52, .r 2), (53, .r 1), (54, .r 0)])
 (.block 6
 (.loop
 (.seq
 (.reg false [p (.bin .lss (.v 54) (.v 53))] [(2, .v 2), (5, .v 5), (8, .v 8), (40, .v 40), (41, .v 41), (42, .v 42), (52, .v 52), (53, .v 53), (54, .v 54), (55, .r 0)])
 (.seq
 (.cond (.v 55)
 .skip
 (.exit 6))
 (.seq
 (.block 7
 (.seq
 (.reg false [p (.iad 1 (.v 52) (.v 54)),
 p (.load (none) (.r 0)),
 p (.mov (.r 0))] [(2, .v 2), (5, .v 5), (8, .v 8), (12, .r 0), (40, .v 40), (41, .v 41), (42, .v 42), (52, .v 52), (53, .v 53), (54, .v 54)])
 (.reg false [p (.mov (.v 5)),
 p (.mov (.v 12)),
 p (.iad 1 (.r 1) (.r 0)),
 p (.store (none) (.r 0) (.k (.bool true)))] [(2, .v 2), (5, .v 5), (8, .v 8), (40, .v 40), (41, .v 41), (42, .v 42), (52, .v 52), (53, .v 53), (54, .v 54)])))
 (.reg false [p (.bin .add (.v 54) (.k (.int .i64 1))),
 p (.mov (.r 0))] [(2, .v 2), (5, .v 5), (8, .v 8), (40, .v 40), (41, .v 41), (42, .v 42), (52, .v 52), (53, .v 53), (54, .r 0)])))))))
 .skip))))
 (.frz
 (.reg false [p (.bin .add (.v 42) (.k (.int .i64 1))),
 p (.mov (.r 0))] [(2, .v 2), (5, .v 5), (8, .v 8), (40, .v 40), (41, .v 41), (42, .r 0)])))))))))
 (.frz
 (.reg false [p (.mov (.v 8)),
 p (.bin .add (.r 0) (.k (.int .i64 1))),
 p (.mov (.r 0))] [(2, .v 2), (5, .v 5), (8, .r 0)])))))))
 (.frz
 (.seq
 (.reg false [p (.mov (.v 5)),
 p (.mov (.r 0))] [(4, .r 0)])
 .ret)))))))
def r58 : List RV := [.t 4]
theorem chk58 : Chk Try.prog Try.f58 c58 r58 := ⟨_, rfl, by kernel_rfl, by kernel_rfl⟩
theorem en58 : EnP Try.prog 58 64 c58 r58 := mkEnP (by kernel_rfl) Try.func58 (by kernel_rfl) chk58

/-- `penelope/peneloperef16.Right` -/
def c29 : C :=
  (.seq
 (.reg false [p (.box 2 (.v 0)),
 p (.mov (.k (.int .i64 0)))] [(1, .r 1)])
 (.seq
 (.seq
 (.reg false [p (.fad 1 (.v 1)),
 p (.load (none) (.r 0)),
 p (.len false (.r 0)),
 p (.bin .gtr (.r 0) (.k (.int .i64 10)))] [(1, .v 1), (8, .r 0)])
 (.cond (.v 8)
 (.seq
 (.reg false [p (.mov (.k (.int .i64 2)))] [(2, .r 0)])
 .ret)
 .skip))
 (.seq
 (.seq
 (.reg false [p (.load (some 2) (.v 1)),
 p (.call true (.k (.fn 57 [] [])) [.r 0]),
 p (.un .not (.r 0))] [(1, .v 1), (11, .r 0)])
 (.cond (.v 11)
 (.seq
 (.reg false [p (.mov (.k (.int .i64 1)))] [(2, .r 0)])
 .ret)
 .skip))
 (.seq
 (.seq
 (.reg false [p (.fad 1 (.v 1)),
 p (.load (none) (.r 0)),
 p (.len false (.r 0)),
 p (.mov (.k (.int .i64 0)))] [(1, .v 1), (14, .r 1), (15, .r 0)])
 (.block 0
 (.loop
 (.seq
 (.reg false [p (.bin .lss (.v 15) (.v 14))] [(1, .v 1), (14, .v 14), (15, .v 15), (16, .r 0)])
 (.seq
 (.cond (.v 16)
 .skip
 (.exit 0))
 (.seq
 (.block 1
 (.seq
 (.reg false [p (.mov (.v 15)),
 p (.mov (.r 0))] [(1, .v 1), (3, .r 0), (14, .v 14), (15, .v 15)])
 (.seq
 (.reg false [p (.load (some 2) (.v 1)),
 p (.mov (.v 3)),
 p (.call true (.k (.fn 58 [] [])) [.r 1, .r 0]),
 p (.mov (.r 0))] [(1, .v 1), (3, .v 3), (4, .r 0), (14, .v 14), (15, .v 15)])
 (.seq
 (.reg false [p (.mov (.v 4)),
 p (.mov (.v 3)),
 p (.iad 1 (.r 1) (.r 0)),
 p (.load (none) (.r 0))] [(1, .v 1), (14, .v 14), (15, .v 15), (24, .r 0)])
 (.cond (.v 24)
 (.seq
 (.reg false [p (.mov (.k (.int .i64 160)))] [(2, .r 0)])
 .ret)
 .skip)))))
 (.reg false [p (.bin .add (.v 15) (.k (.int .i64 1))),
 p (.mov (.r 0))] [(1, .v 1), (14, .v 14), (15, .r 0)])))))))
 (.frz
 (.seq
 (.reg false [p (.mov (.k (.int .i64 0)))] [(2, .r 0)])
 .ret))))))
def r29 : List RV := [.t 2]
theorem chk29 : Chk Try.prog Try.f29 c29 r29 := ⟨_, rfl, by kernel_rfl, by kernel_rfl⟩
theorem en29 : EnP Try.prog 29 26 c29 r29 := mkEnP (by kernel_rfl) Try.func29 (by kernel_rfl) chk29


end Go.Proofs.Ytjlpmndipceboaa.Ev
end
section
set_option maxRecDepth 100000
namespace Go.Proofs.Ytjlpmndipceboaa.Ev
open Go
def ren_join : Go.Shelf.Ren := ⟨fun x => match x with | 156 => 55 | 165 => 77 | 166 => 78 | 169 => 79 | 240 => 85 | 241 => 86 | 276 => 90 | 277 => 91 | n => n, fun x => match x with | 31 => 92 | 9 => 9 | 3 => 3 | 4 => 4 | 0 => 0 | 20 => 20 | 72 => 113 | 76 => 117 | 70 => 111 | 37 => 78 | 75 => 116 | 127 => 123 | 164 => 125 | 5 => 5 | 80 => 70 | n => n, fun x => match x with | n => n⟩
theorem lays_join : Lays.n156 Try.prog ren_join where
  mixed := by kernel_rfl
  f156 := Try.func55.trans (congrArg some (by kernel_rfl))
  f165 := Try.func77.trans (congrArg some (by kernel_rfl))
  f166 := Try.func78.trans (congrArg some (by kernel_rfl))
  f169 := Try.func79.trans (congrArg some (by kernel_rfl))
  f240 := Try.func85.trans (congrArg some (by kernel_rfl))
  f241 := Try.func86.trans (congrArg some (by kernel_rfl))
  f276 := Try.func90.trans (congrArg some (by kernel_rfl))
  f277 := Try.func91.trans (congrArg some (by kernel_rfl))
  t0 := Try.underlying0
  a0 := Try.isAgg0
  z0 := Try.sizeOf0
  v0 := Try.zeroValue0
  t3 := Try.underlying3
  a3 := Try.isAgg3
  z3 := Try.sizeOf3
  v3 := Try.zeroValue3
  t4 := Try.underlying4
  a4 := Try.isAgg4
  z4 := Try.sizeOf4
  v4 := Try.zeroValue4
  t9 := Try.underlying9
  a9 := Try.isAgg9
  z9 := Try.sizeOf9
  v9 := Try.zeroValue9
  t20 := Try.underlying20
  a20 := Try.isAgg20
  z20 := Try.sizeOf20
  v20 := Try.zeroValue20
  t31 := Try.underlying92
  a31 := Try.isAgg92
  z31 := Try.sizeOf92
  v31 := Try.zeroValue92
  t37 := Try.underlying78
  a37 := Try.isAgg78
  z37 := Try.sizeOf78
  v37 := Try.zeroValue78
  t70 := Try.underlying111
  a70 := Try.isAgg111
  z70 := Try.sizeOf111
  v70 := Try.zeroValue111
  t72 := Try.underlying113
  a72 := Try.isAgg113
  z72 := Try.sizeOf113
  v72 := Try.zeroValue113
  t75 := Try.underlying116
  a75 := Try.isAgg116
  z75 := Try.sizeOf116
  v75 := Try.zeroValue116
  t76 := Try.underlying117
  a76 := Try.isAgg117
  z76 := Try.sizeOf117
  v76 := Try.zeroValue117
  t127 := Try.underlying123
  a127 := Try.isAgg123
  z127 := Try.sizeOf123
  v127 := Try.zeroValue123
  t164 := Try.underlying125
  a164 := Try.isAgg125
  z164 := Try.sizeOf125
  v164 := Try.zeroValue125
theorem lays1_join : Builder.Extra Try.prog ren_join where
  sizeBuilder := by kernel_rfl
  liesBuilder := by kernel_rfl
  t5 := Try.underlying5
  a5 := Try.isAgg5
  z5 := Try.sizeOf5
  v5 := Try.zeroValue5
  infoByte := by kernel_rfl
  cellsByte := by kernel_rfl
  sizeByte := by kernel_rfl
  neB5 := by decide
end Go.Proofs.Ytjlpmndipceboaa.Ev
end
section
set_option linter.unusedSimpArgs false
set_option linter.unusedVariables false
namespace Go.Proofs.Ytjlpmndipceboaa.Ev
open Go

abbrev Str := List UInt8
structure Task where
  needs : List Int
  tries : Int
  wait : Int
  lease : Int
structure Dag where
  name : Str
  tasks : List Task
structure Stt where
  is : Int
  tried : Int
  due : Int
  token : Int
  result : Str
structure Rn where
  key : Str
  dag : Dag
  is : Int
  states : List Stt
structure Wd where
  now : Int
  token : Int
  dags : List Dag
  runs : List Rn
structure Cmd where
  kind : Int
  key : Str
  name : Str
  token : Int
  time : Int
  text : Str
  dag : Dag
structure Ans where
  why : Int
  key : Str
  task : Int
  token : Int
  is : Int
  states : List Stt

def vI (l : List Int) : List V := mv (V.int .i64) l
def vB (l : List Bool) : List V := mv V.bool l
def vS (l : List Str) : List V := mv V.str l
def taskV (t : Task) : V := .agg [.fsl .loose 1 (vI t.needs), .int .i64 t.tries, .int .i64 t.wait, .int .i64 t.lease]
def tasksV (l : List Task) : V := .fsl .loose 4 (mv taskV l)
def dagV (d : Dag) : V := .agg [.str d.name, tasksV d.tasks]
def sttV (s : Stt) : V := .agg [.int .i64 s.is, .int .i64 s.tried, .int .i64 s.due, .int .i64 s.token, .str s.result]
def sttsV (l : List Stt) : V := .fsl .loose 5 (mv sttV l)
def rnV (r : Rn) : V := .agg [.str r.key, .str r.dag.name, tasksV r.dag.tasks, .int .i64 r.is, sttsV r.states]
def wdV (w : Wd) : V := .agg [.int .i64 w.now, .int .i64 w.token, .fsl .loose 2 (mv dagV w.dags), .fsl .loose 5 (mv rnV w.runs)]
def cmdV (c : Cmd) : V := .agg [.int .i64 c.kind, .str c.key, .str c.name, .int .i64 c.token, .int .i64 c.time, .str c.text, .str c.dag.name, tasksV c.dag.tasks]
def ansV (a : Ans) : V := .agg [.int .i64 a.why, .str a.key, .int .i64 a.task, .int .i64 a.token, .int .i64 a.is, sttsV a.states]

section
variable {l : List Int}
theorem vI_closed : closedL (vI l) = true := mv_closed fun _ => rfl
theorem vB_closed {l : List Bool} : closedL (vB l) = true := mv_closed fun _ => rfl
theorem vS_closed {l : List Str} : closedL (vS l) = true := mv_closed fun _ => rfl
theorem vI_lo : loL (vI l) = vI l := mv_lo fun _ => by rw [lo]
theorem vB_lo {l : List Bool} : loL (vB l) = vB l := mv_lo fun _ => by rw [lo]
theorem vS_lo {l : List Str} : loL (vS l) = vS l := mv_lo fun _ => by rw [lo]
end
theorem taskV_closed (t : Task) : (taskV t).closed = true := by simp [taskV, V.closed, closedL, vI_closed]
theorem taskV_lo (t : Task) : lo (taskV t) = taskV t := by simp [taskV, lo, loL, vI_lo]
theorem tasksV_closed (l : List Task) : (tasksV l).closed = true := by simp [tasksV, V.closed, mv_closed taskV_closed]
theorem tasksV_lo (l : List Task) : lo (tasksV l) = tasksV l := by simp [tasksV, lo, mv_lo taskV_lo]
theorem dagV_closed (d : Dag) : (dagV d).closed = true := by simp [dagV, V.closed, closedL, tasksV_closed]
theorem dagV_lo (d : Dag) : lo (dagV d) = dagV d := by simp [dagV, lo, loL, tasksV_lo]
theorem sttV_closed (s : Stt) : (sttV s).closed = true := by simp [sttV, V.closed, closedL]
theorem sttV_lo (s : Stt) : lo (sttV s) = sttV s := by simp [sttV, lo, loL]
theorem sttsV_closed (l : List Stt) : (sttsV l).closed = true := by simp [sttsV, V.closed, mv_closed sttV_closed]
theorem sttsV_lo (l : List Stt) : lo (sttsV l) = sttsV l := by simp [sttsV, lo, mv_lo sttV_lo]
theorem rnV_closed (r : Rn) : (rnV r).closed = true := by simp [rnV, V.closed, closedL, tasksV_closed, sttsV_closed]
theorem rnV_lo (r : Rn) : lo (rnV r) = rnV r := by simp [rnV, lo, loL, tasksV_lo, sttsV_lo]
theorem wdV_closed (w : Wd) : (wdV w).closed = true := by simp [wdV, V.closed, closedL, mv_closed dagV_closed, mv_closed rnV_closed]
theorem wdV_lo (w : Wd) : lo (wdV w) = wdV w := by simp [wdV, lo, loL, mv_lo dagV_lo, mv_lo rnV_lo]
theorem cmdV_closed (c : Cmd) : (cmdV c).closed = true := by simp [cmdV, V.closed, closedL, tasksV_closed]
theorem cmdV_lo (c : Cmd) : lo (cmdV c) = cmdV c := by simp [cmdV, lo, loL, tasksV_lo]
theorem ansV_closed (a : Ans) : (ansV a).closed = true := by simp [ansV, V.closed, closedL, sttsV_closed]
theorem ansV_lo (a : Ans) : lo (ansV a) = ansV a := by simp [ansV, lo, loL, sttsV_lo]

/-! As arguments. -/
def yI : Ty := .i .i64
def yIs : Ty := .l 1 8 yI
def yTask : Ty := .st (.cons yIs (.cons yI (.cons yI (.cons yI .nil))))
def yTasks : Ty := .l 4 48 yTask
def fDag (r : Ty) : Ty := .cons .s (.cons yTasks r)
def ySt : Ty := .st (.cons yI (.cons yI (.cons yI (.cons yI (.cons .s .nil)))))
def ySts : Ty := .l 5 48 ySt

def i64 (n : Int) : Prop := -9223372036854775808 ≤ n ∧ n ≤ 9223372036854775807
def okTask (t : Task) : Prop := (∀ x ∈ t.needs, i64 x) ∧ t.needs.length * 8 ≤ reachBytes ∧ i64 t.tries ∧ i64 t.wait ∧ i64 t.lease
def okTasks (l : List Task) : Prop := l.length * 48 ≤ reachBytes ∧ ∀ t ∈ l, okTask t
def okStr (s : Str) : Prop := s.length ≤ reachBytes
def okDag (d : Dag) : Prop := okStr d.name ∧ okTasks d.tasks
def okStt (s : Stt) : Prop := i64 s.is ∧ i64 s.tried ∧ i64 s.due ∧ i64 s.token ∧ okStr s.result

theorem yI_of {vs : List V} (h : TyV yI vs) : ∃ n, vs = [.int .i64 n] ∧ i64 n := h
theorem yS_of {vs : List V} (h : TyV .s vs) : ∃ s, vs = [.str s] ∧ okStr s := h
theorem yIs_of {vs : List V} (h : TyV yIs vs) : ∃ l, vs = [.fsl .loose 1 (vI l)] ∧ l.length * 8 ≤ reachBytes ∧ ∀ x ∈ l, i64 x :=
  list_of (e := yI) (f := V.int .i64) (q := i64) (fun us ⟨x, hx, hb⟩ => ⟨x, by rw [hx]; rfl, hb⟩) h
theorem yTask_of {us : List V} (h : TyV yTask us) : ∃ t, el yTask us = taskV t ∧ okTask t := by
  obtain ⟨u1, w1, rfl, h1, u2, w2, rfl, h2, u3, w3, rfl, h3, u4, w4, rfl, h4, rfl⟩ := h
  obtain ⟨l, rfl, q1, q2⟩ := yIs_of h1
  obtain ⟨a, rfl, qa⟩ := yI_of h2
  obtain ⟨b, rfl, qb⟩ := yI_of h3
  obtain ⟨c, rfl, qc⟩ := yI_of h4
  exact ⟨⟨l, a, b, c⟩, rfl, q2, q1, qa, qb, qc⟩
theorem yTasks_of {vs : List V} (h : TyV yTasks vs) : ∃ l, vs = [tasksV l] ∧ okTasks l := by
  obtain ⟨l, h1, h2, h3⟩ := list_of (e := yTask) (f := taskV) (q := okTask) (fun us hu => yTask_of hu) h
  exact ⟨l, h1, h2, h3⟩
theorem fDag_of {r : Ty} {vs : List V} (h : TyV (fDag r) vs) : ∃ d ws, vs = .str d.name :: tasksV d.tasks :: ws ∧ okDag d ∧ TyV r ws := by
  obtain ⟨u1, w1, rfl, h1, u2, w2, rfl, h2, h3⟩ := h
  obtain ⟨s, rfl, q1⟩ := yS_of h1
  obtain ⟨l, rfl, q2⟩ := yTasks_of h2
  exact ⟨⟨s, l⟩, w2, rfl, ⟨q1, q2⟩, h3⟩
theorem ySt_of {us : List V} (h : TyV ySt us) : ∃ s, el ySt us = sttV s ∧ okStt s := by
  obtain ⟨u1, w1, rfl, h1, u2, w2, rfl, h2, u3, w3, rfl, h3, u4, w4, rfl, h4, u5, w5, rfl, h5, rfl⟩ := h
  obtain ⟨a, rfl, qa⟩ := yI_of h1
  obtain ⟨b, rfl, qb⟩ := yI_of h2
  obtain ⟨c, rfl, qc⟩ := yI_of h3
  obtain ⟨d, rfl, qd⟩ := yI_of h4
  obtain ⟨e, rfl, qe⟩ := yS_of h5
  exact ⟨⟨a, b, c, d, e⟩, rfl, qa, qb, qc, qd, qe⟩
theorem ySts_of {vs : List V} (h : TyV ySts vs) : ∃ l, vs = [sttsV l] ∧ l.length * 48 ≤ reachBytes ∧ ∀ s ∈ l, okStt s :=
  let ⟨l, h1, h2, h3⟩ := list_of (e := ySt) (f := sttV) (q := okStt) (fun us hu => ySt_of hu) h
  ⟨l, h1, h2, h3⟩

end Go.Proofs.Ytjlpmndipceboaa.Ev
end
section
set_option linter.unusedSimpArgs false
set_option linter.unusedVariables false
set_option maxRecDepth 10000
namespace Go.Proofs.Ytjlpmndipceboaa.Ev
open Go

theorem code_join (st : St) (l : List Str) (sep : Str) (hN : l.length ≤ 140737488355328) (hlen : (Lib.join l sep).length ≤ 140737488355328) : PCall Try.prog 55 [.fsl st 1 (vS l), .str sep] (.str (Lib.join l sep)) :=
  join_pcall (ρ := ren_join) lays_join lays1_join ⟨_, Try.func55, by kernel_rfl, by kernel_rfl⟩ st l sep hN hlen
theorem flat_len : ∀ {l : List Str} {N : Nat}, (∀ s ∈ l, s.length ≤ N) → l.flatten.length ≤ l.length * N
  | [], _, _ => by simp
  | a :: l, N, h => by
    have := flat_len (l := l) (N := N) fun s hs => h s (by simp [hs])
    have := h a (by simp)
    rw [List.flatten_cons, List.length_append, List.length_cons, Nat.add_mul]; omega
theorem code_all (st : St) (l : List Str) (hN : l.length ≤ 1000) (hlen : ∀ s ∈ l, s.length ≤ 140737488355) : PCall Try.prog 24 [.fsl st 1 (vS l)] (.str l.flatten) := by
  have hf : l.flatten.length ≤ 140737488355328 := Nat.le_trans (flat_len hlen) (by have := Nat.mul_le_mul_right 140737488355 hN; omega)
  refine en24 (by simp) (by simp [closedL, V.closed, vS_closed]) ?_
  simp (maxSteps := 1000000) (disch := omega) only [rg, opX, opI, look, nth, setN, outO, binO, intO, strO, argsE, appd, cpyO, slcO, slsO, bndO, lo1, mnxO, bldO, bldV, splice, rd, fpS, lk, isNil, Nat.reduceBEq, Nat.reduceEqDiff, Nat.reduceAdd, Int.reduceEq, Int.reduceLT, Int.reduceLE, Int.reduceToNat, reduceIte, reduceCtorEq, Nat.reduceLeDiff, Nat.reduceLT, Nat.reduceMul, Nat.reduceSub, c24]
  refine ⟨_, code_join st l [] (by omega) (by rw [join_nil]; exact hf), ?_⟩
  rw [join_nil]
  simp (maxSteps := 1000000) (disch := omega) only [rg, opX, opI, look, nth, setN, outO, binO, intO, strO, argsE, appd, cpyO, slcO, slsO, bndO, lo1, mnxO, bldO, bldV, splice, rd, fpS, lk, isNil, Nat.reduceBEq, Nat.reduceEqDiff, Nat.reduceAdd, Int.reduceEq, Int.reduceLT, Int.reduceLE, Int.reduceToNat, reduceIte, reduceCtorEq, Nat.reduceLeDiff, Nat.reduceLT, Nat.reduceMul, Nat.reduceSub]
  (refine fin_x rfl ?_ ?_ <;> simp [pack, lo, loL, V.closed, closedL, mv_closed])

def u8V (l : List UInt8) : List V := mv (fun b : UInt8 => V.int .u8 b.toNat) l
theorem u8V_len (l : List UInt8) : (u8V l).length = l.length := mv_len
theorem u8V_closed (l : List UInt8) : closedL (u8V l) = true := mv_closed fun _ => rfl
def beS : Nat → Nat → Str
  | 0, _ => []
  | k + 1, n => beS k (n / 256) ++ [UInt8.ofNat (n % 256)]
theorem beS_len : ∀ k n, (beS k n).length = k
  | 0, _ => rfl
  | k + 1, n => by simp [beS, beS_len k]
theorem beS_get : ∀ (k n j : Nat) (h : j < (beS k n).length), (beS k n)[j] = UInt8.ofNat (n / 256 ^ (k - 1 - j) % 256)
  | 0, _, j, h => by simp [beS] at h
  | k + 1, n, j, h => by
    simp only [beS]
    rw [List.getElem_append]
    split
    · rename_i hj
      rw [beS_get k (n / 256) j hj]
      rw [beS_len] at hj
      rw [Nat.div_div_eq_div_mul, show k + 1 - 1 - j = (k - 1 - j) + 1 by omega, Nat.pow_succ, Nat.mul_comm]
    · rename_i hj
      have : (beS k (n / 256)).length = k := beS_len _ _
      simp [beS_len] at h hj
      have : j = k := by omega
      subst this
      simp [beS_len]
def putS (n size : Int) : Str × Int := if size < 1 ∨ 6 < size ∨ n < 0 ∨ 256 ^ size.toNat ≤ n then ([], 1) else (beS size.toNat n.toNat, 0)
def sV (p : Str × Int) : V := .tup [.str p.1, .int .i64 p.2]

theorem shr8 (n i : Nat) (hi : i ≤ 6) : (n : Int).fdiv (2 ^ min (8 * (i : Int)).toNat 64) = ((n / 256 ^ i : Nat) : Int) := by
  have h : (2 : Nat) ^ (8 * i) = 256 ^ i := Nat.pow_mul 2 8 i
  rw [show min (8 * (i : Int)).toNat 64 = 8 * i by omega, Int.fdiv_eq_ediv_of_nonneg _ (Int.pow_nonneg (by omega)), ← h]
  norm_cast
theorem wrap_u8 (m : Nat) : IntKind.u8.wrap (m : Int) = ((UInt8.ofNat (m % 256)).toNat : Int) := by
  simp [IntKind.wrap, IntKind.bits, IntKind.signed]

theorem code_put (n size : Int) (hn : n ≤ 9223372036854775807) : PCall Try.prog 51 [.int .i64 n, .int .i64 size] (sV (putS n size)) := by
  refine en51 (by simp) (by simp [closedL, V.closed]) ?_
  by_cases c1 : size < 1
  · simp (maxSteps := 1000000) (disch := omega) only [rg, opX, opI, look, nth, setN, outO, binO, intO, strO, argsE, appd, cpyO, slcO, slsO, bndO, lo1, mnxO, bldO, bldV, splice, rd, fpS, lk, isNil, Nat.reduceBEq, Nat.reduceEqDiff, Nat.reduceAdd, Int.reduceEq, Int.reduceLT, Int.reduceLE, Int.reduceToNat, reduceIte, reduceCtorEq, Nat.reduceLeDiff, Nat.reduceLT, Nat.reduceMul, Nat.reduceSub, c51, c1]
    (refine fin_x rfl ?_ ?_ <;> simp [pack, lo, loL, V.closed, closedL, mv_closed, sV, putS, c1])
  by_cases c2 : 6 < size
  · simp (maxSteps := 1000000) (disch := omega) only [rg, opX, opI, look, nth, setN, outO, binO, intO, strO, argsE, appd, cpyO, slcO, slsO, bndO, lo1, mnxO, bldO, bldV, splice, rd, fpS, lk, isNil, Nat.reduceBEq, Nat.reduceEqDiff, Nat.reduceAdd, Int.reduceEq, Int.reduceLT, Int.reduceLE, Int.reduceToNat, reduceIte, reduceCtorEq, Nat.reduceLeDiff, Nat.reduceLT, Nat.reduceMul, Nat.reduceSub, c51, c1, c2]
    (refine fin_x rfl ?_ ?_ <;> simp [pack, lo, loL, V.closed, closedL, mv_closed, sV, putS, c2])
  by_cases c3 : n < 0
  · simp (maxSteps := 1000000) (disch := omega) only [rg, opX, opI, look, nth, setN, outO, binO, intO, strO, argsE, appd, cpyO, slcO, slsO, bndO, lo1, mnxO, bldO, bldV, splice, rd, fpS, lk, isNil, Nat.reduceBEq, Nat.reduceEqDiff, Nat.reduceAdd, Int.reduceEq, Int.reduceLT, Int.reduceLE, Int.reduceToNat, reduceIte, reduceCtorEq, Nat.reduceLeDiff, Nat.reduceLT, Nat.reduceMul, Nat.reduceSub, c51, c1, c2, c3]
    (refine fin_x rfl ?_ ?_ <;> simp [pack, lo, loL, V.closed, closedL, mv_closed, sV, putS, c3])
  obtain ⟨k, rfl⟩ : ∃ k : Nat, size = k := ⟨size.toNat, by omega⟩
  obtain ⟨N, rfl⟩ : ∃ k : Nat, n = k := ⟨n.toNat, by omega⟩
  have e1 := shr8 N k (by omega)
  by_cases c4 : 256 ^ k ≤ N
  · have h0 : ¬ ((N / 256 ^ k : Nat) : Int) = 0 := by have := Nat.div_pos c4 (Nat.pow_pos (by omega)); omega
    simp (maxSteps := 1000000) (disch := omega) only [rg, opX, opI, look, nth, setN, outO, binO, intO, strO, argsE, appd, cpyO, slcO, slsO, bndO, lo1, mnxO, bldO, bldV, splice, rd, fpS, lk, isNil, Nat.reduceBEq, Nat.reduceEqDiff, Nat.reduceAdd, Int.reduceEq, Int.reduceLT, Int.reduceLE, Int.reduceToNat, reduceIte, reduceCtorEq, Nat.reduceLeDiff, Nat.reduceLT, Nat.reduceMul, Nat.reduceSub, c51, c1, c2, c3, IntKind.bits, e1, h0]
    refine ⟨by omega, ?_⟩
    have : (256 : Int) ^ k ≤ N := by exact_mod_cast c4
    (refine fin_x rfl ?_ ?_ <;> simp [pack, lo, loL, V.closed, closedL, mv_closed, sV, putS, this])
  have h0 : ((N / 256 ^ k : Nat) : Int) = 0 := by rw [Nat.div_eq_of_lt (by omega)]; rfl
  have c5 : ¬ (256 : Int) ^ k ≤ N := by intro h; exact c4 (by exact_mod_cast h)
  have hput : putS N k = (beS k N, 0) := by
    unfold putS; rw [if_neg (by simp only [Int.toNat_natCast]; omega)]; simp
  simp (maxSteps := 1000000) (disch := omega) only [rg, opX, opI, look, nth, setN, outO, binO, intO, strO, argsE, appd, cpyO, slcO, slsO, bndO, lo1, mnxO, bldO, bldV, splice, rd, fpS, lk, isNil, Nat.reduceBEq, Nat.reduceEqDiff, Nat.reduceAdd, Int.reduceEq, Int.reduceLT, Int.reduceLE, Int.reduceToNat, reduceIte, reduceCtorEq, Nat.reduceLeDiff, Nat.reduceLT, Nat.reduceMul, Nat.reduceSub, c51, c1, c2, c3, IntKind.bits, e1, h0]
  refine ⟨by omega, by omega, ?_⟩
  let ct : Nat → List UInt8 := fun i => (List.range k).map fun j => if k ≤ i + j then UInt8.ofNat (N / 256 ^ (k - 1 - j) % 256) else 0
  refine x_it k (fun i σ H => H.n = 1 ∧ H.m 0 = some (.arr 1 (u8V (ct i))) ∧ σ = [(0, .int .i64 N), (1, .int .i64 k), (6, .sl 0 0 k), (28, .int .i64 k), (29, .int .i64 i)]) ⟨rfl, ?_, rfl⟩ ?_
  · simp [upd, u8V, mv, ct]
    refine (List.eq_replicate_iff.2 ⟨by simp, ?_⟩).symm
    intro b hb
    obtain ⟨j, hj, rfl⟩ := List.mem_map.1 hb
    simp at hj
    simp [show ¬ k ≤ j by omega]
  rintro T i σ ⟨m, hm⟩ hi ⟨rfl, e0, rfl⟩ hN hX hR
  simp only at e0
  simp (maxSteps := 1000000) (disch := omega) only [rg, opX, opI, look, nth, setN, outO, binO, intO, strO, argsE, appd, cpyO, slcO, slsO, bndO, lo1, mnxO, bldO, bldV, splice, rd, fpS, lk, isNil, Nat.reduceBEq, Nat.reduceEqDiff, Nat.reduceAdd, Int.reduceEq, Int.reduceLT, Int.reduceLE, Int.reduceToNat, reduceIte, reduceCtorEq, Nat.reduceLeDiff, Nat.reduceLT, Nat.reduceMul, Nat.reduceSub]
  refine ⟨fun h => ?_, fun h => ?_⟩
  · have h' : i < k := by omega
    have hk : k - 1 - i < (u8V (ct i)).length := by simp [u8V_len, ct]; omega
    have hk' : k - 1 - i < (ct i).length := by simp [ct]; omega
    have hg : (u8V (ct i))[k - 1 - i]? = some (.int .u8 ((ct i)[k - 1 - i].toNat)) := mv_get hk'
    have e2 := shr8 N i (by omega)
    simp (maxSteps := 1000000) (disch := omega) only [rg, opX, opI, look, nth, setN, outO, binO, intO, strO, argsE, appd, cpyO, slcO, slsO, bndO, lo1, mnxO, bldO, bldV, splice, rd, fpS, lk, isNil, Nat.reduceBEq, Nat.reduceEqDiff, Nat.reduceAdd, Int.reduceEq, Int.reduceLT, Int.reduceLE, Int.reduceToNat, reduceIte, reduceCtorEq, Nat.reduceLeDiff, Nat.reduceLT, Nat.reduceMul, Nat.reduceSub, e0, hg, IntKind.bits, e2, wrap_u8, V.cell, show ((k : Int) - 1 - i).toNat = k - 1 - i by omega]
    have hset : (u8V (ct i)).set (k - 1 - i) (.int .u8 (UInt8.ofNat (N / 256 ^ i % 256)).toNat) = u8V (ct (i + 1)) := by
      rw [u8V, mv_set (f := fun b : UInt8 => V.int .u8 b.toNat)]
      congr 1
      refine List.ext_getElem (by simp [ct]) fun j h1 h2 => ?_
      simp [ct] at h1
      rw [List.getElem_set]
      simp only [ct, List.getElem_map, List.getElem_range]
      by_cases hj : k - 1 - i = j
      · rw [if_pos hj, if_pos (by omega), show k - 1 - j = i by omega]
      · rw [if_neg hj]
        by_cases hk2 : k ≤ i + j
        · rw [if_pos hk2, if_pos (by omega)]
        · rw [if_neg hk2, if_neg (by omega)]
    rw [hset]
    exact ⟨by omega, by omega, hN _ _ h' ⟨rfl, (by simp (disch := omega) only [upd_eq, upd_ne, wo_0, wo_1, wo_2]), rfl⟩⟩
  · obtain rfl : i = k := by omega
    refine hX _ _ _ ?_
    simp (maxSteps := 1000000) (disch := omega) only [rg, opX, opI, look, nth, setN, outO, binO, intO, strO, argsE, appd, cpyO, slcO, slsO, bndO, lo1, mnxO, bldO, bldV, splice, rd, fpS, lk, isNil, Nat.reduceBEq, Nat.reduceEqDiff, Nat.reduceAdd, Int.reduceEq, Int.reduceLT, Int.reduceLE, Int.reduceToNat, reduceIte, reduceCtorEq, Nat.reduceLeDiff, Nat.reduceLT, Nat.reduceMul, Nat.reduceSub]
    refine x_frz0 ?_
    simp (maxSteps := 1000000) (disch := omega) only [rg, opX, opI, look, nth, setN, outO, binO, intO, strO, argsE, appd, cpyO, slcO, slsO, bndO, lo1, mnxO, bldO, bldV, splice, rd, fpS, lk, isNil, Nat.reduceBEq, Nat.reduceEqDiff, Nat.reduceAdd, Int.reduceEq, Int.reduceLT, Int.reduceLE, Int.reduceToNat, reduceIte, reduceCtorEq, Nat.reduceLeDiff, Nat.reduceLT, Nat.reduceMul, Nat.reduceSub, e0, u8V_len]
    have hct : ct i = beS i N := by
      refine List.ext_getElem (by simp [ct, beS_len]) fun j h1 h2 => ?_
      rw [beS_get]
      simp [ct]
    have hl : (ct i).length = i := by simp [ct]
    refine ⟨beS i N, by rw [if_pos (by omega), List.take_of_length_le (by rw [u8V_len]; omega), hct]; rfl, ?_⟩
    simp (maxSteps := 1000000) (disch := omega) only [rg, opX, opI, look, nth, setN, outO, binO, intO, strO, argsE, appd, cpyO, slcO, slsO, bndO, lo1, mnxO, bldO, bldV, splice, rd, fpS, lk, isNil, Nat.reduceBEq, Nat.reduceEqDiff, Nat.reduceAdd, Int.reduceEq, Int.reduceLT, Int.reduceLE, Int.reduceToNat, reduceIte, reduceCtorEq, Nat.reduceLeDiff, Nat.reduceLT, Nat.reduceMul, Nat.reduceSub]
    (refine fin_x rfl ?_ ?_ <;> simp [pack, lo, loL, V.closed, closedL, mv_closed, sV, hput])

theorem putS_len (n size : Int) : (putS n size).1.length ≤ 6 := by
  unfold putS; split
  · simp
  · simp [beS_len]; omega

end Go.Proofs.Ytjlpmndipceboaa.Ev
end
section
set_option linter.unusedSimpArgs false
set_option linter.unusedVariables false
set_option maxRecDepth 10000
namespace Go.Proofs.Ytjlpmndipceboaa.Ev
open Go

theorem u8_fold (s : List UInt8) : (s.map fun b => V.int .u8 b.toNat) = u8V s := rfl
theorem u8V_get {l : List UInt8} {i : Nat} (h : i < l.length) : (u8V l)[i]? = some (.int .u8 l[i].toNat) := mv_get h

def textS (s : Str) : Str × Int := if 65535 < s.length then ([], 2) else (beS 2 s.length ++ s, 0)
def beN (l : Str) : Nat := l.foldl (fun n c => n * 256 + c.toNat) 0
def getS (s : Str) (at' size : Int) : Int × Int × Int :=
  if size < 1 ∨ 6 < size ∨ at' < 0 ∨ (s.length : Int) < at' then (0, 0, 1) else if s.length - at' < size then (0, 0, 3) else (beN ((s.drop at'.toNat).take size.toNat), at' + size, 0)
def cutS (s : Str) (at' : Int) : Str × Int × Int :=
  let p := getS s at' 2
  if p.2.2 ≠ 0 then ([], 0, p.2.2) else if s.length - p.2.1 < p.1 then ([], 0, 3) else ((s.drop p.2.1.toNat).take p.1.toNat, p.2.1 + p.1, 0)
def gV (p : Int × Int × Int) : V := .tup [.int .i64 p.1, .int .i64 p.2.1, .int .i64 p.2.2]
def cV (p : Str × Int × Int) : V := .tup [.str p.1, .int .i64 p.2.1, .int .i64 p.2.2]

theorem beN_snoc (l : Str) (c : UInt8) : beN (l ++ [c]) = beN l * 256 + c.toNat := by simp [beN]
theorem beN_lt (l : Str) : beN l < 256 ^ l.length := by
  suffices h : ∀ (n : Nat) (l : Str), l.length = n → beN l < 256 ^ n from h _ l rfl
  intro n
  induction n with
  | zero => intro l h; have : l = [] := List.eq_nil_of_length_eq_zero h; subst this; simp [beN]
  | succ n ih =>
    intro l h
    obtain ⟨m, c, rfl⟩ : ∃ m c, l = m ++ [c] := ⟨l.dropLast, l.getLast (by intro e; subst e; simp at h), (List.dropLast_concat_getLast _).symm⟩
    have := ih m (by simpa using h)
    rw [beN_snoc, Nat.pow_succ]
    have := c.toNat_lt; omega
theorem or_byte (n : Nat) (c : UInt8) (hn : n < 2 ^ 48) : bits2 .or .i64 ((n : Int) * 256) (c.toNat : Int) = ((n * 256 + c.toNat : Nat) : Int) := by
  have hc := c.toNat_lt
  have e : (n * 256) ||| c.toNat = n * 256 + c.toNat := by
    have := Nat.two_pow_add_eq_or_of_lt (i := 8) (b := c.toNat) (by omega) n
    rw [Nat.mul_comm n 256]; exact this.symm
  have e1 : (BitVec.ofInt 64 ((n : Int) * 256)).toNat = n * 256 := by
    rw [show ((n : Int) * 256) = ((n * 256 : Nat) : Int) by omega, BitVec.ofInt_natCast, BitVec.toNat_ofNat]; omega
  have e2 : (BitVec.ofInt 64 (c.toNat : Int)).toNat = c.toNat := by
    rw [BitVec.ofInt_natCast, BitVec.toNat_ofNat]; omega
  show IntKind.i64.wrap (((BitVec.ofInt 64 ((n : Int) * 256) ||| BitVec.ofInt 64 (c.toNat : Int)) : BitVec 64).toNat : Int) = _
  rw [BitVec.toNat_or, e1, e2, e]
  exact (wrap_i64 (by omega) (by omega) : IntKind.i64.wrap ((n * 256 + c.toNat : Nat) : Int) = _)

theorem code_text (s : Str) (hs : s.length ≤ 1000000000) : PCall Try.prog 53 [.str s] (sV (textS s)) := by
  refine en53 (by simp) (by simp [closedL, V.closed]) ?_
  simp (maxSteps := 1000000) (disch := omega) only [rg, opX, opI, look, nth, setN, outO, binO, intO, strO, argsE, appd, cpyO, slcO, slsO, bndO, lo1, mnxO, bldO, bldV, splice, rd, fpS, lk, isNil, Nat.reduceBEq, Nat.reduceEqDiff, Nat.reduceAdd, Int.reduceEq, Int.reduceLT, Int.reduceLE, Int.reduceToNat, reduceIte, reduceCtorEq, Nat.reduceLeDiff, Nat.reduceLT, Nat.reduceMul, Nat.reduceSub, c53]
  refine ⟨fun h => ?_, fun h => ?_⟩
  · (refine fin_x rfl ?_ ?_ <;> simp [pack, lo, loL, V.closed, closedL, mv_closed, sV, textS, show 65535 < s.length by omega])
  · refine ⟨_, code_put s.length 2 (by omega), ?_⟩
    have e : putS (s.length : Int) 2 = (beS 2 s.length, 0) := by
      unfold putS; rw [if_neg (by simp; omega)]; simp
    simp (maxSteps := 1000000) (disch := omega) only [rg, opX, opI, look, nth, setN, outO, binO, intO, strO, argsE, appd, cpyO, slcO, slsO, bndO, lo1, mnxO, bldO, bldV, splice, rd, fpS, lk, isNil, Nat.reduceBEq, Nat.reduceEqDiff, Nat.reduceAdd, Int.reduceEq, Int.reduceLT, Int.reduceLE, Int.reduceToNat, reduceIte, reduceCtorEq, Nat.reduceLeDiff, Nat.reduceLT, Nat.reduceMul, Nat.reduceSub, e, sV]
    refine ⟨_, code_all .full [beS 2 s.length, s] (by simp) (by simp [beS_len]; omega), ?_⟩
    simp (maxSteps := 1000000) (disch := omega) only [rg, opX, opI, look, nth, setN, outO, binO, intO, strO, argsE, appd, cpyO, slcO, slsO, bndO, lo1, mnxO, bldO, bldV, splice, rd, fpS, lk, isNil, Nat.reduceBEq, Nat.reduceEqDiff, Nat.reduceAdd, Int.reduceEq, Int.reduceLT, Int.reduceLE, Int.reduceToNat, reduceIte, reduceCtorEq, Nat.reduceLeDiff, Nat.reduceLT, Nat.reduceMul, Nat.reduceSub]
    (refine fin_x rfl ?_ ?_ <;> simp [pack, lo, loL, V.closed, closedL, mv_closed, sV, textS, show ¬ 65535 < s.length by omega])

theorem code_get (s : Str) (at' size : Int) (hs : s.length ≤ 1000000000) : PCall Try.prog 64 [.str s, .int .i64 at', .int .i64 size] (gV (getS s at' size)) := by
  refine en64 (by simp) (by simp [closedL, V.closed]) ?_
  by_cases c1 : size < 1
  · simp (maxSteps := 1000000) (disch := omega) only [rg, opX, opI, look, nth, setN, outO, binO, intO, strO, argsE, appd, cpyO, slcO, slsO, bndO, lo1, mnxO, bldO, bldV, splice, rd, fpS, lk, isNil, Nat.reduceBEq, Nat.reduceEqDiff, Nat.reduceAdd, Int.reduceEq, Int.reduceLT, Int.reduceLE, Int.reduceToNat, reduceIte, reduceCtorEq, Nat.reduceLeDiff, Nat.reduceLT, Nat.reduceMul, Nat.reduceSub, c64, c1]
    (refine fin_x rfl ?_ ?_ <;> simp [pack, lo, loL, V.closed, closedL, mv_closed, gV, getS, c1])
  by_cases c2 : 6 < size
  · simp (maxSteps := 1000000) (disch := omega) only [rg, opX, opI, look, nth, setN, outO, binO, intO, strO, argsE, appd, cpyO, slcO, slsO, bndO, lo1, mnxO, bldO, bldV, splice, rd, fpS, lk, isNil, Nat.reduceBEq, Nat.reduceEqDiff, Nat.reduceAdd, Int.reduceEq, Int.reduceLT, Int.reduceLE, Int.reduceToNat, reduceIte, reduceCtorEq, Nat.reduceLeDiff, Nat.reduceLT, Nat.reduceMul, Nat.reduceSub, c64, c1, c2]
    (refine fin_x rfl ?_ ?_ <;> simp [pack, lo, loL, V.closed, closedL, mv_closed, gV, getS, c2])
  by_cases c3 : at' < 0
  · simp (maxSteps := 1000000) (disch := omega) only [rg, opX, opI, look, nth, setN, outO, binO, intO, strO, argsE, appd, cpyO, slcO, slsO, bndO, lo1, mnxO, bldO, bldV, splice, rd, fpS, lk, isNil, Nat.reduceBEq, Nat.reduceEqDiff, Nat.reduceAdd, Int.reduceEq, Int.reduceLT, Int.reduceLE, Int.reduceToNat, reduceIte, reduceCtorEq, Nat.reduceLeDiff, Nat.reduceLT, Nat.reduceMul, Nat.reduceSub, c64, c1, c2, c3]
    (refine fin_x rfl ?_ ?_ <;> simp [pack, lo, loL, V.closed, closedL, mv_closed, gV, getS, c3])
  by_cases c4 : (s.length : Int) < at'
  · simp (maxSteps := 1000000) (disch := omega) only [rg, opX, opI, look, nth, setN, outO, binO, intO, strO, argsE, appd, cpyO, slcO, slsO, bndO, lo1, mnxO, bldO, bldV, splice, rd, fpS, lk, isNil, Nat.reduceBEq, Nat.reduceEqDiff, Nat.reduceAdd, Int.reduceEq, Int.reduceLT, Int.reduceLE, Int.reduceToNat, reduceIte, reduceCtorEq, Nat.reduceLeDiff, Nat.reduceLT, Nat.reduceMul, Nat.reduceSub, c64, c1, c2, c3, c4]
    (refine fin_x rfl ?_ ?_ <;> simp [pack, lo, loL, V.closed, closedL, mv_closed, gV, getS, c4])
  have hno : ¬ (size < 1 ∨ 6 < size ∨ at' < 0 ∨ (s.length : Int) < at') := by omega
  by_cases c5 : (s.length : Int) - at' < size
  · simp (maxSteps := 1000000) (disch := omega) only [rg, opX, opI, look, nth, setN, outO, binO, intO, strO, argsE, appd, cpyO, slcO, slsO, bndO, lo1, mnxO, bldO, bldV, splice, rd, fpS, lk, isNil, Nat.reduceBEq, Nat.reduceEqDiff, Nat.reduceAdd, Int.reduceEq, Int.reduceLT, Int.reduceLE, Int.reduceToNat, reduceIte, reduceCtorEq, Nat.reduceLeDiff, Nat.reduceLT, Nat.reduceMul, Nat.reduceSub, c64, c1, c2, c3, c4, c5]
    (refine fin_x rfl ?_ ?_ <;> simp [pack, lo, loL, V.closed, closedL, mv_closed, gV, getS, hno, c5])
  obtain ⟨k, rfl⟩ : ∃ k : Nat, size = k := ⟨size.toNat, by omega⟩
  obtain ⟨a, rfl⟩ : ∃ a : Nat, at' = a := ⟨at'.toNat, by omega⟩
  have hgs : getS s a k = ((beN ((s.drop a).take k) : Int), (a : Int) + k, 0) := by unfold getS; rw [if_neg hno, if_neg c5]; simp
  have hst : List.drop a (List.take (a + k) s) = (s.drop a).take k := by rw [List.drop_take]; congr 1; omega
  have e1 : ((a : Int) + k).toNat = a + k := by omega
  simp (maxSteps := 1000000) (disch := omega) only [rg, opX, opI, look, nth, setN, outO, binO, intO, strO, argsE, appd, cpyO, slcO, slsO, bndO, lo1, mnxO, bldO, bldV, splice, rd, fpS, lk, isNil, Nat.reduceBEq, Nat.reduceEqDiff, Nat.reduceAdd, Int.reduceEq, Int.reduceLT, Int.reduceLE, Int.reduceToNat, reduceIte, reduceCtorEq, Nat.reduceLeDiff, Nat.reduceLT, Nat.reduceMul, Nat.reduceSub, c64, c1, c2, c3, c4, c5, e1, hst, u8_fold, u8V_len]
  refine ⟨by omega, ?_⟩
  have hl : ((s.drop a).take k).length = k := by simp; omega
  rw [hl]
  generalize hm : (s.drop a).take k = m at hl
  refine x_itp k (fun _ => True) (fun i => [(1, .int .i64 a), (2, .int .i64 k), (9, .int .i64 (beN (m.take i))), (42, .fsl .loose 1 (u8V m)), (43, .int .i64 k), (44, .int .i64 i)]) trivial rfl ?_
  intro T i hi _ hN hX hR
  simp (maxSteps := 1000000) (disch := omega) only [rg, opX, opI, look, nth, setN, outO, binO, intO, strO, argsE, appd, cpyO, slcO, slsO, bndO, lo1, mnxO, bldO, bldV, splice, rd, fpS, lk, isNil, Nat.reduceBEq, Nat.reduceEqDiff, Nat.reduceAdd, Int.reduceEq, Int.reduceLT, Int.reduceLE, Int.reduceToNat, reduceIte, reduceCtorEq, Nat.reduceLeDiff, Nat.reduceLT, Nat.reduceMul, Nat.reduceSub]
  refine ⟨fun h => ?_, fun h => ?_⟩
  · have i1 : i < m.length := by omega
    have h6 : beN (m.take i) < 2 ^ 48 := Nat.lt_of_lt_of_le (beN_lt _) (by
      rw [List.length_take, show (2 : Nat) ^ 48 = 256 ^ 6 from rfl]
      exact Nat.pow_le_pow_right (by omega) (by omega))
    have e2 := or_byte (beN (m.take i)) m[i] h6
    have hb := m[i].toNat_lt
    have e3 := wrap_i64 (n := (beN (m.take i) : Int) * 256) (by omega) (by omega)
    simp (maxSteps := 1000000) (disch := omega) only [rg, opX, opI, look, nth, setN, outO, binO, intO, strO, argsE, appd, cpyO, slcO, slsO, bndO, lo1, mnxO, bldO, bldV, splice, rd, fpS, lk, isNil, Nat.reduceBEq, Nat.reduceEqDiff, Nat.reduceAdd, Int.reduceEq, Int.reduceLT, Int.reduceLE, Int.reduceToNat, reduceIte, reduceCtorEq, Nat.reduceLeDiff, Nat.reduceLT, Nat.reduceMul, Nat.reduceSub, u8V_get, e2, e3, IntKind.bits, show min (8 : Nat) 64 = 8 from rfl, Int.reducePow]
    refine hN _ (by omega) trivial ?_
    rw [List.take_succ_eq_append_getElem i1, beN_snoc]
    simp
  · obtain rfl : i = k := by omega
    refine hX _ _ _ ?_
    simp (maxSteps := 1000000) (disch := omega) only [rg, opX, opI, look, nth, setN, outO, binO, intO, strO, argsE, appd, cpyO, slcO, slsO, bndO, lo1, mnxO, bldO, bldV, splice, rd, fpS, lk, isNil, Nat.reduceBEq, Nat.reduceEqDiff, Nat.reduceAdd, Int.reduceEq, Int.reduceLT, Int.reduceLE, Int.reduceToNat, reduceIte, reduceCtorEq, Nat.reduceLeDiff, Nat.reduceLT, Nat.reduceMul, Nat.reduceSub]
    refine x_frz0 ?_
    simp (maxSteps := 1000000) (disch := omega) only [rg, opX, opI, look, nth, setN, outO, binO, intO, strO, argsE, appd, cpyO, slcO, slsO, bndO, lo1, mnxO, bldO, bldV, splice, rd, fpS, lk, isNil, Nat.reduceBEq, Nat.reduceEqDiff, Nat.reduceAdd, Int.reduceEq, Int.reduceLT, Int.reduceLE, Int.reduceToNat, reduceIte, reduceCtorEq, Nat.reduceLeDiff, Nat.reduceLT, Nat.reduceMul, Nat.reduceSub]
    rw [List.take_of_length_le (by omega)]
    (refine fin_x rfl ?_ ?_ <;> simp [pack, lo, loL, V.closed, closedL, mv_closed, gV, hgs, hm])

end Go.Proofs.Ytjlpmndipceboaa.Ev
end
section
set_option linter.unusedSimpArgs false
set_option linter.unusedVariables false
set_option maxRecDepth 10000
namespace Go.Proofs.Ytjlpmndipceboaa.Ev
open Go

theorem getS_cases (s : Str) (a k : Int) : (getS s a k = (0, 0, 1) ∨ getS s a k = (0, 0, 3)) ∨ (1 ≤ k ∧ k ≤ 6 ∧ 0 ≤ a ∧ a + k ≤ s.length ∧ getS s a k = ((beN ((s.drop a.toNat).take k.toNat) : Int), a + k, 0)) := by
  unfold getS
  split
  · exact .inl (.inl rfl)
  · split
    · exact .inl (.inr rfl)
    · exact .inr ⟨by omega, by omega, by omega, by omega, rfl⟩
theorem beN_take_lt (s : Str) (a k : Nat) : beN ((s.drop a).take k) < 256 ^ k :=
  Nat.lt_of_lt_of_le (beN_lt _) (Nat.pow_le_pow_right (by omega) (by simp; omega))

theorem code_cut (s : Str) (at' : Int) (hs : s.length ≤ 1000000000) : PCall Try.prog 65 [.str s, .int .i64 at'] (cV (cutS s at')) := by
  refine en65 (by simp) (by simp [closedL, V.closed]) ?_
  simp (maxSteps := 1000000) (disch := omega) only [rg, opX, opI, look, nth, setN, outO, binO, intO, strO, argsE, appd, cpyO, slcO, slsO, bndO, lo1, mnxO, bldO, bldV, splice, rd, fpS, lk, isNil, Nat.reduceBEq, Nat.reduceEqDiff, Nat.reduceAdd, Int.reduceEq, Int.reduceLT, Int.reduceLE, Int.reduceToNat, reduceIte, reduceCtorEq, Nat.reduceLeDiff, Nat.reduceLT, Nat.reduceMul, Nat.reduceSub, c65]
  refine ⟨_, code_get s at' 2 hs, ?_⟩
  rcases getS_cases s at' 2 with (e | e) | ⟨h1, h2, h3, h4, e⟩
  · simp (maxSteps := 1000000) (disch := omega) only [rg, opX, opI, look, nth, setN, outO, binO, intO, strO, argsE, appd, cpyO, slcO, slsO, bndO, lo1, mnxO, bldO, bldV, splice, rd, fpS, lk, isNil, Nat.reduceBEq, Nat.reduceEqDiff, Nat.reduceAdd, Int.reduceEq, Int.reduceLT, Int.reduceLE, Int.reduceToNat, reduceIte, reduceCtorEq, Nat.reduceLeDiff, Nat.reduceLT, Nat.reduceMul, Nat.reduceSub, e, gV]
    (refine fin_x rfl ?_ ?_ <;> simp [pack, lo, loL, V.closed, closedL, mv_closed, cV, cutS, e])
  · simp (maxSteps := 1000000) (disch := omega) only [rg, opX, opI, look, nth, setN, outO, binO, intO, strO, argsE, appd, cpyO, slcO, slsO, bndO, lo1, mnxO, bldO, bldV, splice, rd, fpS, lk, isNil, Nat.reduceBEq, Nat.reduceEqDiff, Nat.reduceAdd, Int.reduceEq, Int.reduceLT, Int.reduceLE, Int.reduceToNat, reduceIte, reduceCtorEq, Nat.reduceLeDiff, Nat.reduceLT, Nat.reduceMul, Nat.reduceSub, e, gV]
    (refine fin_x rfl ?_ ?_ <;> simp [pack, lo, loL, V.closed, closedL, mv_closed, cV, cutS, e])
  · have hlt := beN_take_lt s at'.toNat 2
    generalize hn : beN ((s.drop at'.toNat).take (2 : Int).toNat) = n at e
    have hn2 : n < 65536 := by rw [← hn]; exact hlt
    by_cases c : (s.length : Int) - (at' + 2) < n
    · simp (maxSteps := 1000000) (disch := omega) only [rg, opX, opI, look, nth, setN, outO, binO, intO, strO, argsE, appd, cpyO, slcO, slsO, bndO, lo1, mnxO, bldO, bldV, splice, rd, fpS, lk, isNil, Nat.reduceBEq, Nat.reduceEqDiff, Nat.reduceAdd, Int.reduceEq, Int.reduceLT, Int.reduceLE, Int.reduceToNat, reduceIte, reduceCtorEq, Nat.reduceLeDiff, Nat.reduceLT, Nat.reduceMul, Nat.reduceSub, e, gV, c]
      (refine fin_x rfl ?_ ?_ <;> simp [pack, lo, loL, V.closed, closedL, mv_closed, cV, cutS, e, c])
    · simp (maxSteps := 1000000) (disch := omega) only [rg, opX, opI, look, nth, setN, outO, binO, intO, strO, argsE, appd, cpyO, slcO, slsO, bndO, lo1, mnxO, bldO, bldV, splice, rd, fpS, lk, isNil, Nat.reduceBEq, Nat.reduceEqDiff, Nat.reduceAdd, Int.reduceEq, Int.reduceLT, Int.reduceLE, Int.reduceToNat, reduceIte, reduceCtorEq, Nat.reduceLeDiff, Nat.reduceLT, Nat.reduceMul, Nat.reduceSub, e, gV, c]
      refine ⟨by omega, ?_⟩
      have ec : cutS s at' = (List.drop (at' + 2).toNat (List.take (at' + 2 + n).toNat s), at' + 2 + n, 0) := by
        simp only [cutS, e]
        rw [if_neg (by simp), if_neg c, List.drop_take, show (at' + 2 + (n : Int)).toNat - (at' + 2).toNat = n by omega]
        rfl
      (refine fin_x rfl ?_ ?_ <;> simp [pack, lo, loL, V.closed, closedL, mv_closed, cV, ec])

theorem ref_power (n : Nat) (hn : n ≤ 6) : PCall Try.prog 81 [.int .i64 n] (.int .i64 ((256 ^ n : Nat) : Int)) := by
  refine en81 (by simp) (by simp [closedL, V.closed]) ?_
  simp (maxSteps := 1000000) (disch := omega) only [rg, opX, opI, look, nth, setN, outO, binO, intO, strO, argsE, appd, cpyO, slcO, slsO, bndO, lo1, mnxO, bldO, bldV, splice, rd, fpS, lk, isNil, Nat.reduceBEq, Nat.reduceEqDiff, Nat.reduceAdd, Int.reduceEq, Int.reduceLT, Int.reduceLE, Int.reduceToNat, reduceIte, reduceCtorEq, Nat.reduceLeDiff, Nat.reduceLT, Nat.reduceMul, Nat.reduceSub, c81]
  refine x_itp n (fun _ => True) (fun i => [(0, .int .i64 n), (3, .int .i64 ((256 ^ i : Nat) : Int)), (4, .int .i64 i)]) trivial rfl ?_
  intro T i hi _ hN hX hR
  have hp : 256 ^ (i + 1) = 256 ^ i * 256 := Nat.pow_succ ..
  have hb : 256 ^ i ≤ 256 ^ 6 := Nat.pow_le_pow_right (by omega) (by omega)
  simp (maxSteps := 1000000) (disch := omega) only [rg, opX, opI, look, nth, setN, outO, binO, intO, strO, argsE, appd, cpyO, slcO, slsO, bndO, lo1, mnxO, bldO, bldV, splice, rd, fpS, lk, isNil, Nat.reduceBEq, Nat.reduceEqDiff, Nat.reduceAdd, Int.reduceEq, Int.reduceLT, Int.reduceLE, Int.reduceToNat, reduceIte, reduceCtorEq, Nat.reduceLeDiff, Nat.reduceLT, Nat.reduceMul, Nat.reduceSub]
  refine ⟨fun h => ?_, fun h => ?_⟩
  · have e3 := wrap_i64 (n := ((256 ^ i : Nat) : Int) * 256) (by omega) (by omega)
    try simp (maxSteps := 1000000) (disch := omega) only [rg, opX, opI, look, nth, setN, outO, binO, intO, strO, argsE, appd, cpyO, slcO, slsO, bndO, lo1, mnxO, bldO, bldV, splice, rd, fpS, lk, isNil, Nat.reduceBEq, Nat.reduceEqDiff, Nat.reduceAdd, Int.reduceEq, Int.reduceLT, Int.reduceLE, Int.reduceToNat, reduceIte, reduceCtorEq, Nat.reduceLeDiff, Nat.reduceLT, Nat.reduceMul, Nat.reduceSub, e3]
    refine hN _ (by omega) trivial ?_
    rw [hp]; simp
  · obtain rfl : i = n := by omega
    refine hX _ _ _ ?_
    simp (maxSteps := 1000000) (disch := omega) only [rg, opX, opI, look, nth, setN, outO, binO, intO, strO, argsE, appd, cpyO, slcO, slsO, bndO, lo1, mnxO, bldO, bldV, splice, rd, fpS, lk, isNil, Nat.reduceBEq, Nat.reduceEqDiff, Nat.reduceAdd, Int.reduceEq, Int.reduceLT, Int.reduceLE, Int.reduceToNat, reduceIte, reduceCtorEq, Nat.reduceLeDiff, Nat.reduceLT, Nat.reduceMul, Nat.reduceSub]
    refine x_frz0 ?_
    simp (maxSteps := 1000000) (disch := omega) only [rg, opX, opI, look, nth, setN, outO, binO, intO, strO, argsE, appd, cpyO, slcO, slsO, bndO, lo1, mnxO, bldO, bldV, splice, rd, fpS, lk, isNil, Nat.reduceBEq, Nat.reduceEqDiff, Nat.reduceAdd, Int.reduceEq, Int.reduceLT, Int.reduceLE, Int.reduceToNat, reduceIte, reduceCtorEq, Nat.reduceLeDiff, Nat.reduceLT, Nat.reduceMul, Nat.reduceSub]
    (refine fin_x rfl ?_ ?_ <;> simp [pack, lo, loL, V.closed, closedL, mv_closed])

theorem byte_of (N i : Nat) : IntKind.u8.wrap (((N / 256 ^ i % 256 : Nat) : Int)) = ((UInt8.ofNat (N / 256 ^ i % 256)).toNat : Int) := by
  rw [wrap_u8]; simp

theorem ref_put (n size : Int) (hn : n ≤ 9223372036854775807) : PCall Try.prog 61 [.int .i64 n, .int .i64 size] (sV (putS n size)) := by
  refine en61 (by simp) (by simp [closedL, V.closed]) ?_
  by_cases c1 : size < 1
  · simp (maxSteps := 1000000) (disch := omega) only [rg, opX, opI, look, nth, setN, outO, binO, intO, strO, argsE, appd, cpyO, slcO, slsO, bndO, lo1, mnxO, bldO, bldV, splice, rd, fpS, lk, isNil, Nat.reduceBEq, Nat.reduceEqDiff, Nat.reduceAdd, Int.reduceEq, Int.reduceLT, Int.reduceLE, Int.reduceToNat, reduceIte, reduceCtorEq, Nat.reduceLeDiff, Nat.reduceLT, Nat.reduceMul, Nat.reduceSub, c61, c1]
    (refine fin_x rfl ?_ ?_ <;> simp [pack, lo, loL, V.closed, closedL, mv_closed, sV, putS, c1])
  by_cases c2 : 6 < size
  · simp (maxSteps := 1000000) (disch := omega) only [rg, opX, opI, look, nth, setN, outO, binO, intO, strO, argsE, appd, cpyO, slcO, slsO, bndO, lo1, mnxO, bldO, bldV, splice, rd, fpS, lk, isNil, Nat.reduceBEq, Nat.reduceEqDiff, Nat.reduceAdd, Int.reduceEq, Int.reduceLT, Int.reduceLE, Int.reduceToNat, reduceIte, reduceCtorEq, Nat.reduceLeDiff, Nat.reduceLT, Nat.reduceMul, Nat.reduceSub, c61, c1, c2]
    (refine fin_x rfl ?_ ?_ <;> simp [pack, lo, loL, V.closed, closedL, mv_closed, sV, putS, c2])
  by_cases c3 : n < 0
  · simp (maxSteps := 1000000) (disch := omega) only [rg, opX, opI, look, nth, setN, outO, binO, intO, strO, argsE, appd, cpyO, slcO, slsO, bndO, lo1, mnxO, bldO, bldV, splice, rd, fpS, lk, isNil, Nat.reduceBEq, Nat.reduceEqDiff, Nat.reduceAdd, Int.reduceEq, Int.reduceLT, Int.reduceLE, Int.reduceToNat, reduceIte, reduceCtorEq, Nat.reduceLeDiff, Nat.reduceLT, Nat.reduceMul, Nat.reduceSub, c61, c1, c2, c3]
    (refine fin_x rfl ?_ ?_ <;> simp [pack, lo, loL, V.closed, closedL, mv_closed, sV, putS, c3])
  obtain ⟨k, rfl⟩ : ∃ k : Nat, size = k := ⟨size.toNat, by omega⟩
  obtain ⟨N, rfl⟩ : ∃ k : Nat, n = k := ⟨n.toNat, by omega⟩
  simp (maxSteps := 1000000) (disch := omega) only [rg, opX, opI, look, nth, setN, outO, binO, intO, strO, argsE, appd, cpyO, slcO, slsO, bndO, lo1, mnxO, bldO, bldV, splice, rd, fpS, lk, isNil, Nat.reduceBEq, Nat.reduceEqDiff, Nat.reduceAdd, Int.reduceEq, Int.reduceLT, Int.reduceLE, Int.reduceToNat, reduceIte, reduceCtorEq, Nat.reduceLeDiff, Nat.reduceLT, Nat.reduceMul, Nat.reduceSub, c61, c1, c2, c3]
  refine ⟨_, ref_power k (by omega), ?_⟩
  by_cases c4 : 256 ^ k ≤ N
  · have h0 : ((256 ^ k : Nat) : Int) ≤ N := by omega
    have : (256 : Int) ^ k ≤ N := by exact_mod_cast c4
    simp (maxSteps := 1000000) (disch := omega) only [rg, opX, opI, look, nth, setN, outO, binO, intO, strO, argsE, appd, cpyO, slcO, slsO, bndO, lo1, mnxO, bldO, bldV, splice, rd, fpS, lk, isNil, Nat.reduceBEq, Nat.reduceEqDiff, Nat.reduceAdd, Int.reduceEq, Int.reduceLT, Int.reduceLE, Int.reduceToNat, reduceIte, reduceCtorEq, Nat.reduceLeDiff, Nat.reduceLT, Nat.reduceMul, Nat.reduceSub, h0]
    (refine fin_x rfl ?_ ?_ <;> simp [pack, lo, loL, V.closed, closedL, mv_closed, sV, putS, this])
  have c5 : ¬ (256 : Int) ^ k ≤ N := by intro h; exact c4 (by exact_mod_cast h)
  have h0 : ¬ ((256 ^ k : Nat) : Int) ≤ N := by omega
  have hput : putS N k = (beS k N, 0) := by
    unfold putS; rw [if_neg (by simp only [Int.toNat_natCast]; omega)]; simp
  simp (maxSteps := 1000000) (disch := omega) only [rg, opX, opI, look, nth, setN, outO, binO, intO, strO, argsE, appd, cpyO, slcO, slsO, bndO, lo1, mnxO, bldO, bldV, splice, rd, fpS, lk, isNil, Nat.reduceBEq, Nat.reduceEqDiff, Nat.reduceAdd, Int.reduceEq, Int.reduceLT, Int.reduceLE, Int.reduceToNat, reduceIte, reduceCtorEq, Nat.reduceLeDiff, Nat.reduceLT, Nat.reduceMul, Nat.reduceSub, h0]
  refine x_it k (fun i σ H => ∃ v, σ = [(0, .int .i64 N), (6, v), (7, .int .i64 (k - 1 - i))] ∧ ((i = 0 ∧ v = .fsl .full 1 []) ∨ ∃ id, id < H.n ∧ v = .sl id 0 i ∧ 0 < i ∧ H.m id = some (.arr 1 (u8V ((beS k N).take i))))) ⟨_, by simp, .inl ⟨rfl, rfl⟩⟩ ?_
  rintro T i σ ⟨q, m⟩ hi ⟨v, rfl, hv⟩ hN hX hR
  simp only at hv
  simp (maxSteps := 1000000) (disch := omega) only [rg, opX, opI, look, nth, setN, outO, binO, intO, strO, argsE, appd, cpyO, slcO, slsO, bndO, lo1, mnxO, bldO, bldV, splice, rd, fpS, lk, isNil, Nat.reduceBEq, Nat.reduceEqDiff, Nat.reduceAdd, Int.reduceEq, Int.reduceLT, Int.reduceLE, Int.reduceToNat, reduceIte, reduceCtorEq, Nat.reduceLeDiff, Nat.reduceLT, Nat.reduceMul, Nat.reduceSub]
  refine ⟨fun h => ?_, fun h => ?_⟩
  · have i1 : i < k := by omega
    have hik : ((k : Int) - 1 - i) = ((k - 1 - i : Nat) : Int) := by omega
    rw [hik]
    refine ⟨_, ref_power (k - 1 - i) (by omega), ?_⟩
    have hpos : 0 < 256 ^ (k - 1 - i) := Nat.pow_pos (by omega)
    have hdiv : ((N : Int) / ((256 ^ (k - 1 - i) : Nat) : Int)) = ((N / 256 ^ (k - 1 - i) : Nat) : Int) := by simp
    have hmod : (((N / 256 ^ (k - 1 - i) : Nat) : Int) % 256) = ((N / 256 ^ (k - 1 - i) % 256 : Nat) : Int) := by simp
    have hle : N / 256 ^ (k - 1 - i) ≤ N := Nat.div_le_self _ _
    have hs1 : ∀ l : List UInt8, l = (beS k N).take i → u8V l ++ [.int .u8 (UInt8.ofNat (N / 256 ^ (k - 1 - i) % 256)).toNat] = u8V ((beS k N).take (i + 1)) := fun l hl => by
      have hlt : i < (beS k N).length := by rw [beS_len]; exact i1
      rw [hl, List.take_succ_eq_append_getElem hlt, beS_get k N i hlt]
      simp [u8V, mv]
    have hz : ¬ ((256 ^ (k - 1 - i) : Nat) : Int) = 0 := by omega
    have hz2 : (0 : Int) < ((256 ^ (k - 1 - i) : Nat) : Int) := by omega
    have e4 := byte_of N (k - 1 - i)
    generalize N / 256 ^ (k - 1 - i) = D at hdiv hmod hle hs1 e4
    generalize ((256 ^ (k - 1 - i) : Nat) : Int) = Z at hdiv hz hz2
    rcases hv with ⟨rfl, rfl⟩ | ⟨id, hid, rfl, h0, hm⟩
    · simp (maxSteps := 1000000) (disch := omega) only [rg, opX, opI, look, nth, setN, outO, binO, intO, strO, argsE, appd, cpyO, slcO, slsO, bndO, lo1, mnxO, bldO, bldV, splice, rd, fpS, lk, isNil, Nat.reduceBEq, Nat.reduceEqDiff, Nat.reduceAdd, Int.reduceEq, Int.reduceLT, Int.reduceLE, Int.reduceToNat, reduceIte, reduceCtorEq, Nat.reduceLeDiff, Nat.reduceLT, Nat.reduceMul, Nat.reduceSub, appO, hdiv, hmod, e4]
      refine ⟨hz, hN _ _ i1 ⟨_, ?_, .inr ⟨q, by simp, rfl, by omega, ?_⟩⟩⟩
      · simp; omega
      · rw [← hs1 [] (by simp)]; simp [upd, u8V, mv]
    · have hl2 : (u8V ((beS k N).take i)).length = i := by rw [u8V_len]; simp [beS_len]; omega
      have ht2 : List.take i (u8V ((beS k N).take i)) = u8V ((beS k N).take i) := List.take_of_length_le (by omega)
      simp (maxSteps := 1000000) (disch := omega) only [rg, opX, opI, look, nth, setN, outO, binO, intO, strO, argsE, appd, cpyO, slcO, slsO, bndO, lo1, mnxO, bldO, bldV, splice, rd, fpS, lk, isNil, Nat.reduceBEq, Nat.reduceEqDiff, Nat.reduceAdd, Int.reduceEq, Int.reduceLT, Int.reduceLE, Int.reduceToNat, reduceIte, reduceCtorEq, Nat.reduceLeDiff, Nat.reduceLT, Nat.reduceMul, Nat.reduceSub, appO, hdiv, hmod, e4, hm, hl2, ht2, hs1 _ rfl]
      refine ⟨hz, by omega, hN _ _ i1 ⟨_, ?_, .inr ⟨q, by simp, rfl, by omega, (by simp (disch := omega) only [upd_eq, upd_ne, wo_0, wo_1, wo_2])⟩⟩⟩
      simp; omega
  · obtain rfl : i = k := by omega
    refine hX _ _ _ ?_
    simp (maxSteps := 1000000) (disch := omega) only [rg, opX, opI, look, nth, setN, outO, binO, intO, strO, argsE, appd, cpyO, slcO, slsO, bndO, lo1, mnxO, bldO, bldV, splice, rd, fpS, lk, isNil, Nat.reduceBEq, Nat.reduceEqDiff, Nat.reduceAdd, Int.reduceEq, Int.reduceLT, Int.reduceLE, Int.reduceToNat, reduceIte, reduceCtorEq, Nat.reduceLeDiff, Nat.reduceLT, Nat.reduceMul, Nat.reduceSub]
    refine x_frz0 ?_
    rcases hv with ⟨rfl, rfl⟩ | ⟨id, hid, rfl, h0, hm⟩
    · omega
    · simp (maxSteps := 1000000) (disch := omega) only [rg, opX, opI, look, nth, setN, outO, binO, intO, strO, argsE, appd, cpyO, slcO, slsO, bndO, lo1, mnxO, bldO, bldV, splice, rd, fpS, lk, isNil, Nat.reduceBEq, Nat.reduceEqDiff, Nat.reduceAdd, Int.reduceEq, Int.reduceLT, Int.reduceLE, Int.reduceToNat, reduceIte, reduceCtorEq, Nat.reduceLeDiff, Nat.reduceLT, Nat.reduceMul, Nat.reduceSub, hm]
      refine ⟨beS i N, by rw [List.take_of_length_le (by rw [beS_len]; omega), if_pos (by simp [u8V_len, beS_len]), List.take_of_length_le (by simp [u8V_len, beS_len])]; rfl, ?_⟩
      simp (maxSteps := 1000000) (disch := omega) only [rg, opX, opI, look, nth, setN, outO, binO, intO, strO, argsE, appd, cpyO, slcO, slsO, bndO, lo1, mnxO, bldO, bldV, splice, rd, fpS, lk, isNil, Nat.reduceBEq, Nat.reduceEqDiff, Nat.reduceAdd, Int.reduceEq, Int.reduceLT, Int.reduceLE, Int.reduceToNat, reduceIte, reduceCtorEq, Nat.reduceLeDiff, Nat.reduceLT, Nat.reduceMul, Nat.reduceSub]
      (refine fin_x rfl ?_ ?_ <;> simp [pack, lo, loL, V.closed, closedL, mv_closed, sV, hput])

theorem beS_two (n : Nat) (h : n < 65536) : beS 2 n = [UInt8.ofNat (n / 256), UInt8.ofNat (n % 256)] := by
  show [] ++ [UInt8.ofNat (n / 256 % 256)] ++ [UInt8.ofNat (n % 256)] = _
  rw [Nat.mod_eq_of_lt (a := n / 256) (by omega)]; rfl

theorem ref_text (s : Str) (hs : s.length ≤ 1000000000) : PCall Try.prog 59 [.str s] (sV (textS s)) := by
  refine en59 (by simp) (by simp [closedL, V.closed]) ?_
  simp (maxSteps := 1000000) (disch := omega) only [rg, opX, opI, look, nth, setN, outO, binO, intO, strO, argsE, appd, cpyO, slcO, slsO, bndO, lo1, mnxO, bldO, bldV, splice, rd, fpS, lk, isNil, Nat.reduceBEq, Nat.reduceEqDiff, Nat.reduceAdd, Int.reduceEq, Int.reduceLT, Int.reduceLE, Int.reduceToNat, reduceIte, reduceCtorEq, Nat.reduceLeDiff, Nat.reduceLT, Nat.reduceMul, Nat.reduceSub, c59]
  refine ⟨fun h => ?_, fun h => ?_⟩
  · (refine fin_x rfl ?_ ?_ <;> simp [pack, lo, loL, V.closed, closedL, mv_closed, sV, textS, show 65535 < s.length by omega])
  · have h1 : s.length < 65536 := by omega
    have q1 : IntKind.u8.wrap ((s.length : Int) / 256) = ((UInt8.ofNat (s.length / 256)).toNat : Int) := by
      rw [show ((s.length : Int) / 256) = ((s.length / 256 : Nat) : Int) by omega, wrap_u8, Nat.mod_eq_of_lt (by omega)]
    have q2 : IntKind.u8.wrap ((s.length : Int) % 256) = ((UInt8.ofNat (s.length % 256)).toNat : Int) := by
      rw [show ((s.length : Int) % 256) = ((s.length % 256 : Nat) : Int) by omega, wrap_u8, Nat.mod_mod]
    simp (maxSteps := 1000000) (disch := omega) only [rg, opX, opI, look, nth, setN, outO, binO, intO, strO, argsE, appd, cpyO, slcO, slsO, bndO, lo1, mnxO, bldO, bldV, splice, rd, fpS, lk, isNil, Nat.reduceBEq, Nat.reduceEqDiff, Nat.reduceAdd, Int.reduceEq, Int.reduceLT, Int.reduceLE, Int.reduceToNat, reduceIte, reduceCtorEq, Nat.reduceLeDiff, Nat.reduceLT, Nat.reduceMul, Nat.reduceSub, q1, q2]
    refine ⟨[UInt8.ofNat (s.length / 256), UInt8.ofNat (s.length % 256)], rfl, ?_⟩
    simp (maxSteps := 1000000) (disch := omega) only [rg, opX, opI, look, nth, setN, outO, binO, intO, strO, argsE, appd, cpyO, slcO, slsO, bndO, lo1, mnxO, bldO, bldV, splice, rd, fpS, lk, isNil, Nat.reduceBEq, Nat.reduceEqDiff, Nat.reduceAdd, Int.reduceEq, Int.reduceLT, Int.reduceLE, Int.reduceToNat, reduceIte, reduceCtorEq, Nat.reduceLeDiff, Nat.reduceLT, Nat.reduceMul, Nat.reduceSub]
    refine ⟨by omega, ?_⟩
    (refine fin_x rfl ?_ ?_ <;> simp [pack, lo, loL, V.closed, closedL, mv_closed, sV, textS, show ¬ 65535 < s.length by omega, beS_two s.length h1])

theorem ref_get (s : Str) (at' size : Int) (hs : s.length ≤ 1000000000) : PCall Try.prog 71 [.str s, .int .i64 at', .int .i64 size] (gV (getS s at' size)) := by
  refine en71 (by simp) (by simp [closedL, V.closed]) ?_
  by_cases c1 : size < 1
  · simp (maxSteps := 1000000) (disch := omega) only [rg, opX, opI, look, nth, setN, outO, binO, intO, strO, argsE, appd, cpyO, slcO, slsO, bndO, lo1, mnxO, bldO, bldV, splice, rd, fpS, lk, isNil, Nat.reduceBEq, Nat.reduceEqDiff, Nat.reduceAdd, Int.reduceEq, Int.reduceLT, Int.reduceLE, Int.reduceToNat, reduceIte, reduceCtorEq, Nat.reduceLeDiff, Nat.reduceLT, Nat.reduceMul, Nat.reduceSub, c71, c1]
    (refine fin_x rfl ?_ ?_ <;> simp [pack, lo, loL, V.closed, closedL, mv_closed, gV, getS, c1])
  by_cases c2 : 6 < size
  · simp (maxSteps := 1000000) (disch := omega) only [rg, opX, opI, look, nth, setN, outO, binO, intO, strO, argsE, appd, cpyO, slcO, slsO, bndO, lo1, mnxO, bldO, bldV, splice, rd, fpS, lk, isNil, Nat.reduceBEq, Nat.reduceEqDiff, Nat.reduceAdd, Int.reduceEq, Int.reduceLT, Int.reduceLE, Int.reduceToNat, reduceIte, reduceCtorEq, Nat.reduceLeDiff, Nat.reduceLT, Nat.reduceMul, Nat.reduceSub, c71, c1, c2]
    (refine fin_x rfl ?_ ?_ <;> simp [pack, lo, loL, V.closed, closedL, mv_closed, gV, getS, c2])
  by_cases c3 : at' < 0
  · simp (maxSteps := 1000000) (disch := omega) only [rg, opX, opI, look, nth, setN, outO, binO, intO, strO, argsE, appd, cpyO, slcO, slsO, bndO, lo1, mnxO, bldO, bldV, splice, rd, fpS, lk, isNil, Nat.reduceBEq, Nat.reduceEqDiff, Nat.reduceAdd, Int.reduceEq, Int.reduceLT, Int.reduceLE, Int.reduceToNat, reduceIte, reduceCtorEq, Nat.reduceLeDiff, Nat.reduceLT, Nat.reduceMul, Nat.reduceSub, c71, c1, c2, c3]
    (refine fin_x rfl ?_ ?_ <;> simp [pack, lo, loL, V.closed, closedL, mv_closed, gV, getS, c3])
  by_cases c4 : (s.length : Int) < at'
  · simp (maxSteps := 1000000) (disch := omega) only [rg, opX, opI, look, nth, setN, outO, binO, intO, strO, argsE, appd, cpyO, slcO, slsO, bndO, lo1, mnxO, bldO, bldV, splice, rd, fpS, lk, isNil, Nat.reduceBEq, Nat.reduceEqDiff, Nat.reduceAdd, Int.reduceEq, Int.reduceLT, Int.reduceLE, Int.reduceToNat, reduceIte, reduceCtorEq, Nat.reduceLeDiff, Nat.reduceLT, Nat.reduceMul, Nat.reduceSub, c71, c1, c2, c3, c4]
    (refine fin_x rfl ?_ ?_ <;> simp [pack, lo, loL, V.closed, closedL, mv_closed, gV, getS, c4])
  have hno : ¬ (size < 1 ∨ 6 < size ∨ at' < 0 ∨ (s.length : Int) < at') := by omega
  by_cases c5 : (s.length : Int) - at' < size
  · simp (maxSteps := 1000000) (disch := omega) only [rg, opX, opI, look, nth, setN, outO, binO, intO, strO, argsE, appd, cpyO, slcO, slsO, bndO, lo1, mnxO, bldO, bldV, splice, rd, fpS, lk, isNil, Nat.reduceBEq, Nat.reduceEqDiff, Nat.reduceAdd, Int.reduceEq, Int.reduceLT, Int.reduceLE, Int.reduceToNat, reduceIte, reduceCtorEq, Nat.reduceLeDiff, Nat.reduceLT, Nat.reduceMul, Nat.reduceSub, c71, c1, c2, c3, c4, c5]
    (refine fin_x rfl ?_ ?_ <;> simp [pack, lo, loL, V.closed, closedL, mv_closed, gV, getS, hno, c5])
  obtain ⟨k, rfl⟩ : ∃ k : Nat, size = k := ⟨size.toNat, by omega⟩
  obtain ⟨a, rfl⟩ : ∃ a : Nat, at' = a := ⟨at'.toNat, by omega⟩
  have hgs : getS s a k = ((beN ((s.drop a).take k) : Int), (a : Int) + k, 0) := by unfold getS; rw [if_neg hno, if_neg c5]; simp
  have hl : ((s.drop a).take k).length = k := by simp; omega
  simp (maxSteps := 1000000) (disch := omega) only [rg, opX, opI, look, nth, setN, outO, binO, intO, strO, argsE, appd, cpyO, slcO, slsO, bndO, lo1, mnxO, bldO, bldV, splice, rd, fpS, lk, isNil, Nat.reduceBEq, Nat.reduceEqDiff, Nat.reduceAdd, Int.reduceEq, Int.reduceLT, Int.reduceLE, Int.reduceToNat, reduceIte, reduceCtorEq, Nat.reduceLeDiff, Nat.reduceLT, Nat.reduceMul, Nat.reduceSub, c71, c1, c2, c3, c4, c5]
  refine x_itp k (fun _ => True) (fun i => [(0, .str s), (1, .int .i64 a), (2, .int .i64 k), (9, .int .i64 (beN ((s.drop a).take i))), (10, .int .i64 i)]) trivial rfl ?_
  intro T i hi _ hN hX hR
  simp (maxSteps := 1000000) (disch := omega) only [rg, opX, opI, look, nth, setN, outO, binO, intO, strO, argsE, appd, cpyO, slcO, slsO, bndO, lo1, mnxO, bldO, bldV, splice, rd, fpS, lk, isNil, Nat.reduceBEq, Nat.reduceEqDiff, Nat.reduceAdd, Int.reduceEq, Int.reduceLT, Int.reduceLE, Int.reduceToNat, reduceIte, reduceCtorEq, Nat.reduceLeDiff, Nat.reduceLT, Nat.reduceMul, Nat.reduceSub]
  refine ⟨fun h => ?_, fun h => ?_⟩
  · have i1 : a + i < s.length := by omega
    have h6 : beN ((s.drop a).take i) < 2 ^ 48 := Nat.lt_of_lt_of_le (beN_take_lt s a i) (by
      rw [show (2 : Nat) ^ 48 = 256 ^ 6 from rfl]
      exact Nat.pow_le_pow_right (by omega) (by omega))
    have e3 := wrap_i64 (n := (beN ((s.drop a).take i) : Int) * 256) (by omega) (by omega)
    have hget : s[((a : Int) + i).toNat]? = some s[a + i] := by rw [show ((a : Int) + i).toNat = a + i by omega]; simp [i1]
    have hb := s[a + i].toNat_lt
    simp (maxSteps := 1000000) (disch := omega) only [rg, opX, opI, look, nth, setN, outO, binO, intO, strO, argsE, appd, cpyO, slcO, slsO, bndO, lo1, mnxO, bldO, bldV, splice, rd, fpS, lk, isNil, Nat.reduceBEq, Nat.reduceEqDiff, Nat.reduceAdd, Int.reduceEq, Int.reduceLT, Int.reduceLE, Int.reduceToNat, reduceIte, reduceCtorEq, Nat.reduceLeDiff, Nat.reduceLT, Nat.reduceMul, Nat.reduceSub, e3, hget]
    refine ⟨by omega, hN _ (by omega) trivial ?_⟩
    have : (s.drop a).take (i + 1) = (s.drop a).take i ++ [s[a + i]] := by
      rw [List.take_succ_eq_append_getElem (by simp; omega)]; simp
    rw [this, beN_snoc]
    simp
  · obtain rfl : i = k := by omega
    refine hX _ _ _ ?_
    simp (maxSteps := 1000000) (disch := omega) only [rg, opX, opI, look, nth, setN, outO, binO, intO, strO, argsE, appd, cpyO, slcO, slsO, bndO, lo1, mnxO, bldO, bldV, splice, rd, fpS, lk, isNil, Nat.reduceBEq, Nat.reduceEqDiff, Nat.reduceAdd, Int.reduceEq, Int.reduceLT, Int.reduceLE, Int.reduceToNat, reduceIte, reduceCtorEq, Nat.reduceLeDiff, Nat.reduceLT, Nat.reduceMul, Nat.reduceSub]
    refine x_frz0 ?_
    simp (maxSteps := 1000000) (disch := omega) only [rg, opX, opI, look, nth, setN, outO, binO, intO, strO, argsE, appd, cpyO, slcO, slsO, bndO, lo1, mnxO, bldO, bldV, splice, rd, fpS, lk, isNil, Nat.reduceBEq, Nat.reduceEqDiff, Nat.reduceAdd, Int.reduceEq, Int.reduceLT, Int.reduceLE, Int.reduceToNat, reduceIte, reduceCtorEq, Nat.reduceLeDiff, Nat.reduceLT, Nat.reduceMul, Nat.reduceSub]
    (refine fin_x rfl ?_ ?_ <;> simp [pack, lo, loL, V.closed, closedL, mv_closed, gV, hgs])

theorem ref_cut (s : Str) (at' : Int) (hs : s.length ≤ 1000000000) : PCall Try.prog 72 [.str s, .int .i64 at'] (cV (cutS s at')) := by
  refine en72 (by simp) (by simp [closedL, V.closed]) ?_
  simp (maxSteps := 1000000) (disch := omega) only [rg, opX, opI, look, nth, setN, outO, binO, intO, strO, argsE, appd, cpyO, slcO, slsO, bndO, lo1, mnxO, bldO, bldV, splice, rd, fpS, lk, isNil, Nat.reduceBEq, Nat.reduceEqDiff, Nat.reduceAdd, Int.reduceEq, Int.reduceLT, Int.reduceLE, Int.reduceToNat, reduceIte, reduceCtorEq, Nat.reduceLeDiff, Nat.reduceLT, Nat.reduceMul, Nat.reduceSub, c72]
  refine ⟨_, ref_get s at' 2 hs, ?_⟩
  rcases getS_cases s at' 2 with (e | e) | ⟨h1, h2, h3, h4, e⟩
  · simp (maxSteps := 1000000) (disch := omega) only [rg, opX, opI, look, nth, setN, outO, binO, intO, strO, argsE, appd, cpyO, slcO, slsO, bndO, lo1, mnxO, bldO, bldV, splice, rd, fpS, lk, isNil, Nat.reduceBEq, Nat.reduceEqDiff, Nat.reduceAdd, Int.reduceEq, Int.reduceLT, Int.reduceLE, Int.reduceToNat, reduceIte, reduceCtorEq, Nat.reduceLeDiff, Nat.reduceLT, Nat.reduceMul, Nat.reduceSub, e, gV]
    (refine fin_x rfl ?_ ?_ <;> simp [pack, lo, loL, V.closed, closedL, mv_closed, cV, cutS, e])
  · simp (maxSteps := 1000000) (disch := omega) only [rg, opX, opI, look, nth, setN, outO, binO, intO, strO, argsE, appd, cpyO, slcO, slsO, bndO, lo1, mnxO, bldO, bldV, splice, rd, fpS, lk, isNil, Nat.reduceBEq, Nat.reduceEqDiff, Nat.reduceAdd, Int.reduceEq, Int.reduceLT, Int.reduceLE, Int.reduceToNat, reduceIte, reduceCtorEq, Nat.reduceLeDiff, Nat.reduceLT, Nat.reduceMul, Nat.reduceSub, e, gV]
    (refine fin_x rfl ?_ ?_ <;> simp [pack, lo, loL, V.closed, closedL, mv_closed, cV, cutS, e])
  · have hlt := beN_take_lt s at'.toNat 2
    generalize hn : beN ((s.drop at'.toNat).take (2 : Int).toNat) = n at e
    have hn2 : n < 65536 := by rw [← hn]; exact hlt
    by_cases c : (s.length : Int) - (at' + 2) < n
    · simp (maxSteps := 1000000) (disch := omega) only [rg, opX, opI, look, nth, setN, outO, binO, intO, strO, argsE, appd, cpyO, slcO, slsO, bndO, lo1, mnxO, bldO, bldV, splice, rd, fpS, lk, isNil, Nat.reduceBEq, Nat.reduceEqDiff, Nat.reduceAdd, Int.reduceEq, Int.reduceLT, Int.reduceLE, Int.reduceToNat, reduceIte, reduceCtorEq, Nat.reduceLeDiff, Nat.reduceLT, Nat.reduceMul, Nat.reduceSub, e, gV, c]
      (refine fin_x rfl ?_ ?_ <;> simp [pack, lo, loL, V.closed, closedL, mv_closed, cV, cutS, e, c])
    · simp (maxSteps := 1000000) (disch := omega) only [rg, opX, opI, look, nth, setN, outO, binO, intO, strO, argsE, appd, cpyO, slcO, slsO, bndO, lo1, mnxO, bldO, bldV, splice, rd, fpS, lk, isNil, Nat.reduceBEq, Nat.reduceEqDiff, Nat.reduceAdd, Int.reduceEq, Int.reduceLT, Int.reduceLE, Int.reduceToNat, reduceIte, reduceCtorEq, Nat.reduceLeDiff, Nat.reduceLT, Nat.reduceMul, Nat.reduceSub, e, gV, c]
      refine ⟨by omega, ?_⟩
      have ec : cutS s at' = (List.drop (at' + 2).toNat (List.take (at' + 2 + n).toNat s), at' + 2 + n, 0) := by
        simp only [cutS, e]
        rw [if_neg (by simp), if_neg c, List.drop_take, show (at' + 2 + (n : Int)).toNat - (at' + 2).toNat = n by omega]
        rfl
      (refine fin_x rfl ?_ ?_ <;> simp [pack, lo, loL, V.closed, closedL, mv_closed, cV, ec])

end Go.Proofs.Ytjlpmndipceboaa.Ev
end
section
set_option linter.unusedSimpArgs false
set_option linter.unusedVariables false
set_option maxRecDepth 10000
namespace Go.Proofs.Ytjlpmndipceboaa.Ev
open Go

abbrev B32 := BitVec 32
def poly : B32 := 0x82f63b78#32
def stepB (c : B32) : B32 := (c >>> 1) ^^^ (if c.getLsbD 0 then poly else 0#32)
def stepsB : Nat → B32 → B32
  | 0, c => c
  | n + 1, c => stepB (stepsB n c)
def byte32 (b : UInt8) : B32 := BitVec.ofNat 32 b.toNat
def byteB (c : B32) (b : UInt8) : B32 := stepsB 8 (c ^^^ byte32 b)
def bitB (c : B32) (t : Bool) : B32 := (c >>> 1) ^^^ (if c.getLsbD 0 != t then poly else 0#32)
def bitsB (b : UInt8) : Nat → B32 → B32
  | 0, c => c
  | n + 1, c => bitB (bitsB b n c) ((byte32 b).getLsbD n)
theorem bits_steps (c : B32) (b : UInt8) : ∀ n, stepsB n (c ^^^ byte32 b) = bitsB b n c ^^^ (byte32 b >>> n)
  | 0 => by simp [stepsB, bitsB]
  | n + 1 => by
    rw [stepsB, bits_steps c b n, stepB, bitsB, bitB, BitVec.ushiftRight_xor_distrib, BitVec.getLsbD_xor, BitVec.shiftRight_add]
    simp only [BitVec.getLsbD_ushiftRight, Nat.add_zero]
    rw [show ((bitsB b n c).getLsbD 0 ^^ (byte32 b).getLsbD n) = ((bitsB b n c).getLsbD 0 != (byte32 b).getLsbD n) from rfl, BitVec.xor_assoc, BitVec.xor_assoc]
    congr 1
    rw [BitVec.xor_comm]
theorem byte32_shift (b : UInt8) : byte32 b >>> 8 = 0#32 := by
  have := b.toNat_lt
  apply BitVec.eq_of_toNat_eq
  simp [byte32, Nat.shiftRight_eq_div_pow]; omega
theorem bits_byte (c : B32) (b : UInt8) : bitsB b 8 c = byteB c b := by
  rw [byteB, bits_steps, byte32_shift]; simp
def onS (c : B32) (s : Str) : B32 := ~~~ (s.foldl byteB (~~~ c))
def crcS (s : Str) : B32 := onS 0#32 s

def w32 (c : B32) : V := .int .u32 c.toNat
theorem wrap_32 (c : B32) : IntKind.u32.wrap (c.toNat : Int) = c.toNat := by
  have := c.isLt
  simp [IntKind.wrap, IntKind.bits, IntKind.signed]; omega
theorem bits_xor (a b : B32) : bits2 .xor .u32 (a.toNat : Int) (b.toNat : Int) = ((a ^^^ b).toNat : Int) := by
  show IntKind.u32.wrap (((BitVec.ofInt 32 (a.toNat : Int) ^^^ BitVec.ofInt 32 (b.toNat : Int)) : BitVec 32).toNat : Int) = _
  rw [BitVec.ofInt_natCast, BitVec.ofInt_natCast, BitVec.ofNat_toNat, BitVec.ofNat_toNat, BitVec.setWidth_eq, BitVec.setWidth_eq]
  exact wrap_32 _
theorem bits_and (a b : B32) : bits2 .and .u32 (a.toNat : Int) (b.toNat : Int) = ((a &&& b).toNat : Int) := by
  show IntKind.u32.wrap (((BitVec.ofInt 32 (a.toNat : Int) &&& BitVec.ofInt 32 (b.toNat : Int)) : BitVec 32).toNat : Int) = _
  rw [BitVec.ofInt_natCast, BitVec.ofInt_natCast, BitVec.ofNat_toNat, BitVec.ofNat_toNat, BitVec.setWidth_eq, BitVec.setWidth_eq]
  exact wrap_32 _

theorem low_bit (c : B32) : (c &&& 1#32) = if c.getLsbD 0 then 1#32 else 0#32 := by
  apply BitVec.eq_of_toNat_eq
  have h : c.getLsbD 0 = decide (c.toNat % 2 = 1) := by simp [BitVec.getLsbD, Nat.testBit_zero]
  rw [h]
  simp only [BitVec.toNat_and, BitVec.toNat_ofNat]
  have : c.toNat &&& 1 = c.toNat % 2 := Nat.and_one_is_mod _
  by_cases k : c.toNat % 2 = 1
  · simp [k, this]
  · simp [k, this]; omega
theorem neg_bit (c : B32) : IntKind.u32.wrap (0 - ((c &&& 1#32).toNat : Int)) = ((if c.getLsbD 0 then BitVec.allOnes 32 else 0#32).toNat : Int) := by
  rw [low_bit]
  cases c.getLsbD 0 <;> rfl
theorem half (c : B32) : ((c.toNat : Int).fdiv (2 ^ min 1 32)) = ((c >>> 1).toNat : Int) := by
  simp [Nat.shiftRight_eq_div_pow, Int.fdiv_eq_ediv_of_nonneg]
theorem step_eq (c : B32) : ((c >>> 1) ^^^ (poly &&& (if c.getLsbD 0 then BitVec.allOnes 32 else 0#32))) = stepB c := by
  unfold stepB
  cases c.getLsbD 0
  · show (c >>> 1) ^^^ (poly &&& 0#32) = _; rw [BitVec.and_zero]; rfl
  · show (c >>> 1) ^^^ (poly &&& BitVec.allOnes 32) = _; rw [BitVec.and_allOnes]; rfl
theorem byte_cast (b : UInt8) : IntKind.u32.wrap (b.toNat : Int) = ((byte32 b).toNat : Int) := by
  have := b.toNat_lt
  simp [byte32, IntKind.wrap, IntKind.bits, IntKind.signed]; omega
theorem poly_val : ((2197175160 : Int)) = (poly.toNat : Int) := rfl
theorem one_val : ((1 : Int)) = ((1#32).toNat : Int) := rfl
theorem not_32 (c : B32) : bits2 .xor .u32 (4294967295 : Int) (c.toNat : Int) = ((~~~ c).toNat : Int) := by
  rw [show (4294967295 : Int) = ((BitVec.allOnes 32).toNat : Int) from rfl, bits_xor, BitVec.allOnes_xor]

theorem max_32 : (2 ^ 32 - 1 : Int) = 4294967295 := rfl
theorem sum_on (c : B32) (s : Str) (hs : s.length ≤ 1000000000) : PCall Try.prog 87 [w32 c, .str s] (w32 (onS c s)) := by
  refine en87 (by simp) (by simp [closedL, V.closed, w32]) ?_
  simp (maxSteps := 1000000) (disch := omega) only [rg, opX, opI, look, nth, setN, outO, binO, intO, strO, argsE, appd, cpyO, slcO, slsO, bndO, lo1, mnxO, bldO, bldV, splice, rd, fpS, lk, isNil, Nat.reduceBEq, Nat.reduceEqDiff, Nat.reduceAdd, Int.reduceEq, Int.reduceLT, Int.reduceLE, Int.reduceToNat, reduceIte, reduceCtorEq, Nat.reduceLeDiff, Nat.reduceLT, Nat.reduceMul, Nat.reduceSub, c87, w32, u8_fold, u8V_len, IntKind.signed, IntKind.max, IntKind.bits, max_32, not_32]
  refine x_itp s.length (fun _ => True) (fun i => [(5, .int .u32 (((s.take i).foldl byteB (~~~ c)).toNat)), (11, .fsl .loose 1 (u8V s)), (12, .int .i64 s.length), (13, .int .i64 i)]) trivial rfl ?_
  intro T i hi _ hN hX hR
  simp (maxSteps := 1000000) (disch := omega) only [rg, opX, opI, look, nth, setN, outO, binO, intO, strO, argsE, appd, cpyO, slcO, slsO, bndO, lo1, mnxO, bldO, bldV, splice, rd, fpS, lk, isNil, Nat.reduceBEq, Nat.reduceEqDiff, Nat.reduceAdd, Int.reduceEq, Int.reduceLT, Int.reduceLE, Int.reduceToNat, reduceIte, reduceCtorEq, Nat.reduceLeDiff, Nat.reduceLT, Nat.reduceMul, Nat.reduceSub]
  refine ⟨fun h => ?_, fun h => ?_⟩
  · have i1 : i < s.length := by omega
    simp (maxSteps := 1000000) (disch := omega) only [rg, opX, opI, look, nth, setN, outO, binO, intO, strO, argsE, appd, cpyO, slcO, slsO, bndO, lo1, mnxO, bldO, bldV, splice, rd, fpS, lk, isNil, Nat.reduceBEq, Nat.reduceEqDiff, Nat.reduceAdd, Int.reduceEq, Int.reduceLT, Int.reduceLE, Int.reduceToNat, reduceIte, reduceCtorEq, Nat.reduceLeDiff, Nat.reduceLT, Nat.reduceMul, Nat.reduceSub, u8V_get, byte_cast, bits_xor]
    refine x_itp 8 (fun _ => True) (fun j => [(5, .int .u32 ((stepsB j (((s.take i).foldl byteB (~~~ c)) ^^^ byte32 s[i])).toNat)), (11, .fsl .loose 1 (u8V s)), (12, .int .i64 s.length), (13, .int .i64 i), (21, .int .i64 j)]) trivial rfl ?_
    intro T2 j hj _ hN2 hX2 hR2
    have hstep : stepsB (j + 1) (((s.take i).foldl byteB (~~~ c)) ^^^ byte32 s[i]) = stepB (stepsB j (((s.take i).foldl byteB (~~~ c)) ^^^ byte32 s[i])) := rfl
    generalize hd : stepsB j (((s.take i).foldl byteB (~~~ c)) ^^^ byte32 s[i]) = d at hstep ⊢
    have e1 : bits2 .and .u32 (d.toNat : Int) 1 = ((d &&& 1#32).toNat : Int) := bits_and d 1#32
    have e2 := half d
    have e3 : ∀ x : B32, bits2 .and .u32 2197175160 (x.toNat : Int) = ((poly &&& x).toNat : Int) := fun x => bits_and poly x
    simp (maxSteps := 1000000) (disch := omega) only [rg, opX, opI, look, nth, setN, outO, binO, intO, strO, argsE, appd, cpyO, slcO, slsO, bndO, lo1, mnxO, bldO, bldV, splice, rd, fpS, lk, isNil, Nat.reduceBEq, Nat.reduceEqDiff, Nat.reduceAdd, Int.reduceEq, Int.reduceLT, Int.reduceLE, Int.reduceToNat, reduceIte, reduceCtorEq, Nat.reduceLeDiff, Nat.reduceLT, Nat.reduceMul, Nat.reduceSub]
    refine ⟨fun h2 => ?_, fun h2 => ?_⟩
    · simp (maxSteps := 1000000) (disch := omega) only [rg, opX, opI, look, nth, setN, outO, binO, intO, strO, argsE, appd, cpyO, slcO, slsO, bndO, lo1, mnxO, bldO, bldV, splice, rd, fpS, lk, isNil, Nat.reduceBEq, Nat.reduceEqDiff, Nat.reduceAdd, Int.reduceEq, Int.reduceLT, Int.reduceLE, Int.reduceToNat, reduceIte, reduceCtorEq, Nat.reduceLeDiff, Nat.reduceLT, Nat.reduceMul, Nat.reduceSub, e1, neg_bit, e3, IntKind.bits, show (1 : Int).toNat = 1 from rfl, e2, bits_xor, step_eq]
      exact hN2 _ (by omega) trivial (by rw [hstep]; rfl)
    · obtain rfl : j = 8 := by omega
      refine hX2 _ _ _ ?_
      simp (maxSteps := 1000000) (disch := omega) only [rg, opX, opI, look, nth, setN, outO, binO, intO, strO, argsE, appd, cpyO, slcO, slsO, bndO, lo1, mnxO, bldO, bldV, splice, rd, fpS, lk, isNil, Nat.reduceBEq, Nat.reduceEqDiff, Nat.reduceAdd, Int.reduceEq, Int.reduceLT, Int.reduceLE, Int.reduceToNat, reduceIte, reduceCtorEq, Nat.reduceLeDiff, Nat.reduceLT, Nat.reduceMul, Nat.reduceSub]
      refine x_frz0 ?_
      simp (maxSteps := 1000000) (disch := omega) only [rg, opX, opI, look, nth, setN, outO, binO, intO, strO, argsE, appd, cpyO, slcO, slsO, bndO, lo1, mnxO, bldO, bldV, splice, rd, fpS, lk, isNil, Nat.reduceBEq, Nat.reduceEqDiff, Nat.reduceAdd, Int.reduceEq, Int.reduceLT, Int.reduceLE, Int.reduceToNat, reduceIte, reduceCtorEq, Nat.reduceLeDiff, Nat.reduceLT, Nat.reduceMul, Nat.reduceSub]
      refine hN _ i1 trivial ?_
      rw [List.take_succ_eq_append_getElem i1, List.foldl_append]
      show _ = [(5, V.int .u32 ((byteB _ s[i]).toNat : Int)), _, _, _]
      rw [byteB, hd]
      rfl
  · obtain rfl : i = s.length := by omega
    rw [List.take_length]
    refine hX _ _ _ ?_
    simp (maxSteps := 1000000) (disch := omega) only [rg, opX, opI, look, nth, setN, outO, binO, intO, strO, argsE, appd, cpyO, slcO, slsO, bndO, lo1, mnxO, bldO, bldV, splice, rd, fpS, lk, isNil, Nat.reduceBEq, Nat.reduceEqDiff, Nat.reduceAdd, Int.reduceEq, Int.reduceLT, Int.reduceLE, Int.reduceToNat, reduceIte, reduceCtorEq, Nat.reduceLeDiff, Nat.reduceLT, Nat.reduceMul, Nat.reduceSub]
    refine x_frz0 ?_
    simp (maxSteps := 1000000) (disch := omega) only [rg, opX, opI, look, nth, setN, outO, binO, intO, strO, argsE, appd, cpyO, slcO, slsO, bndO, lo1, mnxO, bldO, bldV, splice, rd, fpS, lk, isNil, Nat.reduceBEq, Nat.reduceEqDiff, Nat.reduceAdd, Int.reduceEq, Int.reduceLT, Int.reduceLE, Int.reduceToNat, reduceIte, reduceCtorEq, Nat.reduceLeDiff, Nat.reduceLT, Nat.reduceMul, Nat.reduceSub, IntKind.signed, IntKind.max, IntKind.bits, max_32, not_32]
    (refine fin_x rfl ?_ ?_ <;> simp [pack, lo, loL, V.closed, closedL, mv_closed, onS])

theorem sum_of (st : St) (l : List Str) (hl : l.length ≤ 1000) (hs : ∀ s ∈ l, s.length ≤ 1000000000) : PCall Try.prog 80 [.fsl st 1 (vS l)] (w32 (l.foldl onS 0#32)) := by
  refine en80 (by simp) (by simp [closedL, V.closed, vS_closed]) ?_
  simp (maxSteps := 1000000) (disch := omega) only [rg, opX, opI, look, nth, setN, outO, binO, intO, strO, argsE, appd, cpyO, slcO, slsO, bndO, lo1, mnxO, bldO, bldV, splice, rd, fpS, lk, isNil, Nat.reduceBEq, Nat.reduceEqDiff, Nat.reduceAdd, Int.reduceEq, Int.reduceLT, Int.reduceLE, Int.reduceToNat, reduceIte, reduceCtorEq, Nat.reduceLeDiff, Nat.reduceLT, Nat.reduceMul, Nat.reduceSub, c80, vS]
  refine x_itp l.length (fun _ => True) (fun i => [(3, w32 ((l.take i).foldl onS 0#32)), (6, .fsl st 1 (mv V.str l)), (7, .int .i64 l.length), (8, .int .i64 i)]) trivial rfl ?_
  intro T i hi _ hN hX hR
  simp (maxSteps := 1000000) (disch := omega) only [rg, opX, opI, look, nth, setN, outO, binO, intO, strO, argsE, appd, cpyO, slcO, slsO, bndO, lo1, mnxO, bldO, bldV, splice, rd, fpS, lk, isNil, Nat.reduceBEq, Nat.reduceEqDiff, Nat.reduceAdd, Int.reduceEq, Int.reduceLT, Int.reduceLE, Int.reduceToNat, reduceIte, reduceCtorEq, Nat.reduceLeDiff, Nat.reduceLT, Nat.reduceMul, Nat.reduceSub]
  refine ⟨fun h => ?_, fun h => ?_⟩
  · have i1 : i < l.length := by omega
    simp (maxSteps := 1000000) (disch := omega) only [rg, opX, opI, look, nth, setN, outO, binO, intO, strO, argsE, appd, cpyO, slcO, slsO, bndO, lo1, mnxO, bldO, bldV, splice, rd, fpS, lk, isNil, Nat.reduceBEq, Nat.reduceEqDiff, Nat.reduceAdd, Int.reduceEq, Int.reduceLT, Int.reduceLE, Int.reduceToNat, reduceIte, reduceCtorEq, Nat.reduceLeDiff, Nat.reduceLT, Nat.reduceMul, Nat.reduceSub]
    refine ⟨_, sum_on _ l[i] (hs _ (List.getElem_mem i1)), ?_⟩
    simp (maxSteps := 1000000) (disch := omega) only [rg, opX, opI, look, nth, setN, outO, binO, intO, strO, argsE, appd, cpyO, slcO, slsO, bndO, lo1, mnxO, bldO, bldV, splice, rd, fpS, lk, isNil, Nat.reduceBEq, Nat.reduceEqDiff, Nat.reduceAdd, Int.reduceEq, Int.reduceLT, Int.reduceLE, Int.reduceToNat, reduceIte, reduceCtorEq, Nat.reduceLeDiff, Nat.reduceLT, Nat.reduceMul, Nat.reduceSub]
    refine hN _ i1 trivial ?_
    rw [List.take_succ_eq_append_getElem i1, List.foldl_append]
    rfl
  · obtain rfl : i = l.length := by omega
    rw [List.take_length]
    refine hX _ _ _ ?_
    simp (maxSteps := 1000000) (disch := omega) only [rg, opX, opI, look, nth, setN, outO, binO, intO, strO, argsE, appd, cpyO, slcO, slsO, bndO, lo1, mnxO, bldO, bldV, splice, rd, fpS, lk, isNil, Nat.reduceBEq, Nat.reduceEqDiff, Nat.reduceAdd, Int.reduceEq, Int.reduceLT, Int.reduceLE, Int.reduceToNat, reduceIte, reduceCtorEq, Nat.reduceLeDiff, Nat.reduceLT, Nat.reduceMul, Nat.reduceSub]
    refine x_frz0 ?_
    simp (maxSteps := 1000000) (disch := omega) only [rg, opX, opI, look, nth, setN, outO, binO, intO, strO, argsE, appd, cpyO, slcO, slsO, bndO, lo1, mnxO, bldO, bldV, splice, rd, fpS, lk, isNil, Nat.reduceBEq, Nat.reduceEqDiff, Nat.reduceAdd, Int.reduceEq, Int.reduceLT, Int.reduceLE, Int.reduceToNat, reduceIte, reduceCtorEq, Nat.reduceLeDiff, Nat.reduceLT, Nat.reduceMul, Nat.reduceSub]
    (refine fin_x rfl ?_ ?_ <;> simp [pack, lo, loL, V.closed, closedL, mv_closed, w32])

def le4 (c : B32) : Str := [UInt8.ofNat (c.toNat % 256), UInt8.ofNat (c.toNat / 256 % 256), UInt8.ofNat (c.toNat / 65536 % 256), UInt8.ofNat (c.toNat / 16777216 % 256)]
def sealS (s : Str) : Str := s ++ le4 (crcS s)
def openS (s : Str) : Str × Int := if s.length < 4 then ([], 3) else if sealS (s.take (s.length - 4)) ≠ s then ([], 41) else (s.take (s.length - 4), 0)

theorem sum_seal (s : Str) (hs : s.length ≤ 1000000000) : PCall Try.prog 56 [.str s] (.str (sealS s)) := by
  refine en56 (by simp) (by simp [closedL, V.closed]) ?_
  simp (maxSteps := 1000000) (disch := omega) only [rg, opX, opI, look, nth, setN, outO, binO, intO, strO, argsE, appd, cpyO, slcO, slsO, bndO, lo1, mnxO, bldO, bldV, splice, rd, fpS, lk, isNil, Nat.reduceBEq, Nat.reduceEqDiff, Nat.reduceAdd, Int.reduceEq, Int.reduceLT, Int.reduceLE, Int.reduceToNat, reduceIte, reduceCtorEq, Nat.reduceLeDiff, Nat.reduceLT, Nat.reduceMul, Nat.reduceSub, c56]
  refine ⟨_, sum_of .full [s] (by simp) (by simpa using hs), ?_⟩
  simp only [List.foldl_cons, List.foldl_nil]
  have hc : onS 0#32 s = crcS s := rfl
  rw [hc]
  have h := (crcS s).isLt
  have hle : (le4 (crcS s)).length = 4 := rfl
  have q0 : IntKind.u8.wrap ((crcS s).toNat : Int) = ((UInt8.ofNat ((crcS s).toNat % 256)).toNat : Int) := wrap_u8 _
  have q1 : IntKind.u8.wrap (((crcS s).toNat : Int).fdiv (2 ^ min 8 32)) = ((UInt8.ofNat ((crcS s).toNat / 256 % 256)).toNat : Int) := by
    rw [← wrap_u8, Int.fdiv_eq_ediv_of_nonneg _ (by simp)]; simp
  have q2 : IntKind.u8.wrap (((crcS s).toNat : Int).fdiv (2 ^ min 16 32)) = ((UInt8.ofNat ((crcS s).toNat / 65536 % 256)).toNat : Int) := by
    rw [← wrap_u8, Int.fdiv_eq_ediv_of_nonneg _ (by simp)]; simp
  have q3 : IntKind.u8.wrap (((crcS s).toNat : Int).fdiv (2 ^ min 24 32)) = ((UInt8.ofNat ((crcS s).toNat / 16777216 % 256)).toNat : Int) := by
    rw [← wrap_u8, Int.fdiv_eq_ediv_of_nonneg _ (by simp)]; simp
  simp (maxSteps := 1000000) (disch := omega) only [rg, opX, opI, look, nth, setN, outO, binO, intO, strO, argsE, appd, cpyO, slcO, slsO, bndO, lo1, mnxO, bldO, bldV, splice, rd, fpS, lk, isNil, Nat.reduceBEq, Nat.reduceEqDiff, Nat.reduceAdd, Int.reduceEq, Int.reduceLT, Int.reduceLE, Int.reduceToNat, reduceIte, reduceCtorEq, Nat.reduceLeDiff, Nat.reduceLT, Nat.reduceMul, Nat.reduceSub, w32, IntKind.bits, q0, q1, q2, q3]
  refine ⟨le4 (crcS s), rfl, ?_⟩
  simp (maxSteps := 1000000) (disch := omega) only [rg, opX, opI, look, nth, setN, outO, binO, intO, strO, argsE, appd, cpyO, slcO, slsO, bndO, lo1, mnxO, bldO, bldV, splice, rd, fpS, lk, isNil, Nat.reduceBEq, Nat.reduceEqDiff, Nat.reduceAdd, Int.reduceEq, Int.reduceLT, Int.reduceLE, Int.reduceToNat, reduceIte, reduceCtorEq, Nat.reduceLeDiff, Nat.reduceLT, Nat.reduceMul, Nat.reduceSub]
  refine ⟨_, code_all .full [s, le4 (crcS s)] (by simp) (by simp [hle]; omega), ?_⟩
  simp (maxSteps := 1000000) (disch := omega) only [rg, opX, opI, look, nth, setN, outO, binO, intO, strO, argsE, appd, cpyO, slcO, slsO, bndO, lo1, mnxO, bldO, bldV, splice, rd, fpS, lk, isNil, Nat.reduceBEq, Nat.reduceEqDiff, Nat.reduceAdd, Int.reduceEq, Int.reduceLT, Int.reduceLE, Int.reduceToNat, reduceIte, reduceCtorEq, Nat.reduceLeDiff, Nat.reduceLT, Nat.reduceMul, Nat.reduceSub]
  (refine fin_x rfl ?_ ?_ <;> simp [pack, lo, loL, V.closed, closedL, mv_closed, sealS])

theorem sum_open (s : Str) (hs : s.length ≤ 1000000000) : PCall Try.prog 63 [.str s] (sV (openS s)) := by
  refine en63 (by simp) (by simp [closedL, V.closed]) ?_
  simp (maxSteps := 1000000) (disch := omega) only [rg, opX, opI, look, nth, setN, outO, binO, intO, strO, argsE, appd, cpyO, slcO, slsO, bndO, lo1, mnxO, bldO, bldV, splice, rd, fpS, lk, isNil, Nat.reduceBEq, Nat.reduceEqDiff, Nat.reduceAdd, Int.reduceEq, Int.reduceLT, Int.reduceLE, Int.reduceToNat, reduceIte, reduceCtorEq, Nat.reduceLeDiff, Nat.reduceLT, Nat.reduceMul, Nat.reduceSub, c63]
  refine ⟨fun h => ?_, fun h => ?_⟩
  · (refine fin_x rfl ?_ ?_ <;> simp [pack, lo, loL, V.closed, closedL, mv_closed, sV, openS, show s.length < 4 by omega])
  · have h4 : ¬ s.length < 4 := by omega
    have e : ((s.length : Int) - 4).toNat = s.length - 4 := by omega
    simp (maxSteps := 1000000) (disch := omega) only [rg, opX, opI, look, nth, setN, outO, binO, intO, strO, argsE, appd, cpyO, slcO, slsO, bndO, lo1, mnxO, bldO, bldV, splice, rd, fpS, lk, isNil, Nat.reduceBEq, Nat.reduceEqDiff, Nat.reduceAdd, Int.reduceEq, Int.reduceLT, Int.reduceLE, Int.reduceToNat, reduceIte, reduceCtorEq, Nat.reduceLeDiff, Nat.reduceLT, Nat.reduceMul, Nat.reduceSub, e]
    refine ⟨by omega, _, sum_seal (s.take (s.length - 4)) (by simp; omega), ?_⟩
    simp (maxSteps := 1000000) (disch := omega) only [rg, opX, opI, look, nth, setN, outO, binO, intO, strO, argsE, appd, cpyO, slcO, slsO, bndO, lo1, mnxO, bldO, bldV, splice, rd, fpS, lk, isNil, Nat.reduceBEq, Nat.reduceEqDiff, Nat.reduceAdd, Int.reduceEq, Int.reduceLT, Int.reduceLE, Int.reduceToNat, reduceIte, reduceCtorEq, Nat.reduceLeDiff, Nat.reduceLT, Nat.reduceMul, Nat.reduceSub]
    refine ⟨fun h2 => ?_, fun h2 => ?_⟩
    · (refine fin_x rfl ?_ ?_ <;> simp [pack, lo, loL, V.closed, closedL, mv_closed, sV, openS, h4, h2])
    · refine ⟨by omega, ?_⟩
      (refine fin_x rfl ?_ ?_ <;> simp [pack, lo, loL, V.closed, closedL, mv_closed, sV, openS, h4, h2, e])

theorem byte32_toNat (b : UInt8) : (byte32 b).toNat = b.toNat := by
  have := b.toNat_lt
  simp [byte32]
theorem bit_cast (b : UInt8) (k : Nat) (hk : k < 8) : (((byte32 b).toNat : Int).fdiv (2 ^ min (IntKind.u64.wrap (k : Int)).toNat 32)).tmod 2 = if (byte32 b).getLsbD k then 1 else 0 := by
  have hw : IntKind.u64.wrap (k : Int) = k := by simp [IntKind.wrap, IntKind.bits, IntKind.signed]; omega
  rw [hw, byte32_toNat, show min (k : Int).toNat 32 = k by omega, Int.fdiv_eq_ediv_of_nonneg _ (Int.pow_nonneg (by omega)), Int.tmod_eq_emod_of_nonneg (Int.ediv_nonneg (by omega) (Int.pow_nonneg (by omega)))]
  have e : (byte32 b).getLsbD k = decide (b.toNat / 2 ^ k % 2 = 1) := by
    simp only [byte32, BitVec.getLsbD_ofNat, Nat.testBit_eq_decide_div_mod_eq]
    simp; omega
  rw [e, show ((b.toNat : Int) / 2 ^ k % 2) = ((b.toNat / 2 ^ k % 2 : Nat) : Int) by norm_cast]
  by_cases h : b.toNat / 2 ^ k % 2 = 1
  · simp [h]
  · have : b.toNat / 2 ^ k % 2 = 0 := by omega
    simp [this]
theorem low_cast (c : B32) : ((c.toNat : Int) % 2) = if c.getLsbD 0 then 1 else 0 := by
  have h : c.getLsbD 0 = decide (c.toNat % 2 = 1) := by simp [BitVec.getLsbD, Nat.testBit_zero]
  rw [h]
  by_cases k : c.toNat % 2 = 1
  · simp [k]; omega
  · simp [k]; omega
theorem half2 (c : B32) : (Nat.cast c.toNat : Int) / (2 : Int) = ((c >>> 1).toNat : Int) := by
  simp [Nat.shiftRight_eq_div_pow]
theorem not_sub (c : B32) : (4294967295 : Int) - (c.toNat : Int) = ((~~~ c).toNat : Int) := by
  have := c.isLt
  rw [BitVec.toNat_not]; omega
theorem xor_poly (c : B32) : bits2 .xor .u32 (c.toNat : Int) 2197175160 = ((c ^^^ poly).toNat : Int) := bits_xor c poly

theorem ref_on (c : B32) (s : Str) (hs : s.length ≤ 1000000000) : PCall Try.prog 82 [w32 c, .str s] (w32 (onS c s)) := by
  refine en82 (by simp) (by simp [closedL, V.closed, w32]) ?_
  simp (maxSteps := 1000000) (disch := omega) only [rg, opX, opI, look, nth, setN, outO, binO, intO, strO, argsE, appd, cpyO, slcO, slsO, bndO, lo1, mnxO, bldO, bldV, splice, rd, fpS, lk, isNil, Nat.reduceBEq, Nat.reduceEqDiff, Nat.reduceAdd, Int.reduceEq, Int.reduceLT, Int.reduceLE, Int.reduceToNat, reduceIte, reduceCtorEq, Nat.reduceLeDiff, Nat.reduceLT, Nat.reduceMul, Nat.reduceSub, c82, w32, not_sub, wrap_32]
  refine x_itp s.length (fun _ => True) (fun i => [(1, .str s), (5, .int .u32 (((s.take i).foldl byteB (~~~ c)).toNat)), (6, .int .i64 i)]) trivial rfl ?_
  intro T i hi _ hN hX hR
  simp (maxSteps := 1000000) (disch := omega) only [rg, opX, opI, look, nth, setN, outO, binO, intO, strO, argsE, appd, cpyO, slcO, slsO, bndO, lo1, mnxO, bldO, bldV, splice, rd, fpS, lk, isNil, Nat.reduceBEq, Nat.reduceEqDiff, Nat.reduceAdd, Int.reduceEq, Int.reduceLT, Int.reduceLE, Int.reduceToNat, reduceIte, reduceCtorEq, Nat.reduceLeDiff, Nat.reduceLT, Nat.reduceMul, Nat.reduceSub]
  refine ⟨fun h => ?_, fun h => ?_⟩
  · have i1 : i < s.length := by omega
    refine x_itp 8 (fun _ => True) (fun j => [(1, .str s), (5, .int .u32 ((bitsB s[i] j ((s.take i).foldl byteB (~~~ c))).toNat)), (6, .int .i64 i), (7, .int .i64 j)]) trivial rfl ?_
    intro T2 j hj _ hN2 hX2 hR2
    have hstep : bitsB s[i] (j + 1) ((s.take i).foldl byteB (~~~ c)) = bitB (bitsB s[i] j ((s.take i).foldl byteB (~~~ c))) ((byte32 s[i]).getLsbD j) := rfl
    generalize hd : bitsB s[i] j ((s.take i).foldl byteB (~~~ c)) = d at hstep ⊢
    have hget : s[i]? = some s[i] := by simp [i1]
    simp (maxSteps := 1000000) (disch := omega) only [rg, opX, opI, look, nth, setN, outO, binO, intO, strO, argsE, appd, cpyO, slcO, slsO, bndO, lo1, mnxO, bldO, bldV, splice, rd, fpS, lk, isNil, Nat.reduceBEq, Nat.reduceEqDiff, Nat.reduceAdd, Int.reduceEq, Int.reduceLT, Int.reduceLE, Int.reduceToNat, reduceIte, reduceCtorEq, Nat.reduceLeDiff, Nat.reduceLT, Nat.reduceMul, Nat.reduceSub]
    refine ⟨fun h2 => ?_, fun h2 => ?_⟩
    · have hj8 : j < 8 := by omega
      have hw : 0 ≤ IntKind.u64.wrap (j : Int) := by simp [IntKind.wrap, IntKind.bits, IntKind.signed]; omega
      simp (maxSteps := 1000000) (disch := omega) only [rg, opX, opI, look, nth, setN, outO, binO, intO, strO, argsE, appd, cpyO, slcO, slsO, bndO, lo1, mnxO, bldO, bldV, splice, rd, fpS, lk, isNil, Nat.reduceBEq, Nat.reduceEqDiff, Nat.reduceAdd, Int.reduceEq, Int.reduceLT, Int.reduceLE, Int.reduceToNat, reduceIte, reduceCtorEq, Nat.reduceLeDiff, Nat.reduceLT, Nat.reduceMul, Nat.reduceSub, hget, byte_cast, IntKind.bits]
      refine ⟨hw, fun h3 => ?_, fun h3 => ?_⟩
      · rw [low_cast, bit_cast _ _ hj8] at h3
        rw [half2, wrap_32, xor_poly]
        refine hN2 _ hj8 trivial ?_
        have hc : (d.getLsbD 0 != (byte32 s[i]).getLsbD j) = true := by revert h3; cases d.getLsbD 0 <;> cases (byte32 s[i]).getLsbD j <;> simp
        rw [hstep, bitB, hc]
        rfl
      · rw [low_cast, bit_cast _ _ hj8] at h3
        rw [half2, wrap_32]
        refine hN2 _ hj8 trivial ?_
        have hc : (d.getLsbD 0 != (byte32 s[i]).getLsbD j) = false := by revert h3; cases d.getLsbD 0 <;> cases (byte32 s[i]).getLsbD j <;> simp
        rw [hstep, bitB, hc]
        rw [if_neg (by simp), BitVec.xor_zero]; rfl
    · obtain rfl : j = 8 := by omega
      refine hX2 _ _ _ ?_
      simp (maxSteps := 1000000) (disch := omega) only [rg, opX, opI, look, nth, setN, outO, binO, intO, strO, argsE, appd, cpyO, slcO, slsO, bndO, lo1, mnxO, bldO, bldV, splice, rd, fpS, lk, isNil, Nat.reduceBEq, Nat.reduceEqDiff, Nat.reduceAdd, Int.reduceEq, Int.reduceLT, Int.reduceLE, Int.reduceToNat, reduceIte, reduceCtorEq, Nat.reduceLeDiff, Nat.reduceLT, Nat.reduceMul, Nat.reduceSub]
      refine x_frz0 ?_
      simp (maxSteps := 1000000) (disch := omega) only [rg, opX, opI, look, nth, setN, outO, binO, intO, strO, argsE, appd, cpyO, slcO, slsO, bndO, lo1, mnxO, bldO, bldV, splice, rd, fpS, lk, isNil, Nat.reduceBEq, Nat.reduceEqDiff, Nat.reduceAdd, Int.reduceEq, Int.reduceLT, Int.reduceLE, Int.reduceToNat, reduceIte, reduceCtorEq, Nat.reduceLeDiff, Nat.reduceLT, Nat.reduceMul, Nat.reduceSub]
      refine hN _ i1 trivial ?_
      rw [List.take_succ_eq_append_getElem i1, List.foldl_append]
      show _ = [_, (5, V.int .u32 ((byteB _ s[i]).toNat : Int)), _]
      rw [← bits_byte, hd]
      rfl
  · obtain rfl : i = s.length := by omega
    rw [List.take_length]
    refine hX _ _ _ ?_
    simp (maxSteps := 1000000) (disch := omega) only [rg, opX, opI, look, nth, setN, outO, binO, intO, strO, argsE, appd, cpyO, slcO, slsO, bndO, lo1, mnxO, bldO, bldV, splice, rd, fpS, lk, isNil, Nat.reduceBEq, Nat.reduceEqDiff, Nat.reduceAdd, Int.reduceEq, Int.reduceLT, Int.reduceLE, Int.reduceToNat, reduceIte, reduceCtorEq, Nat.reduceLeDiff, Nat.reduceLT, Nat.reduceMul, Nat.reduceSub]
    refine x_frz0 ?_
    simp (maxSteps := 1000000) (disch := omega) only [rg, opX, opI, look, nth, setN, outO, binO, intO, strO, argsE, appd, cpyO, slcO, slsO, bndO, lo1, mnxO, bldO, bldV, splice, rd, fpS, lk, isNil, Nat.reduceBEq, Nat.reduceEqDiff, Nat.reduceAdd, Int.reduceEq, Int.reduceLT, Int.reduceLE, Int.reduceToNat, reduceIte, reduceCtorEq, Nat.reduceLeDiff, Nat.reduceLT, Nat.reduceMul, Nat.reduceSub, not_sub, wrap_32]
    (refine fin_x rfl ?_ ?_ <;> simp [pack, lo, loL, V.closed, closedL, mv_closed, onS])

theorem ref_of (s : Str) (hs : s.length ≤ 1000000000) : PCall Try.prog 62 [.str s] (w32 (crcS s)) := by
  refine en62 (by simp) (by simp [closedL, V.closed]) ?_
  have k := ref_on 0#32 s hs
  simp (maxSteps := 1000000) (disch := omega) only [rg, opX, opI, look, nth, setN, outO, binO, intO, strO, argsE, appd, cpyO, slcO, slsO, bndO, lo1, mnxO, bldO, bldV, splice, rd, fpS, lk, isNil, Nat.reduceBEq, Nat.reduceEqDiff, Nat.reduceAdd, Int.reduceEq, Int.reduceLT, Int.reduceLE, Int.reduceToNat, reduceIte, reduceCtorEq, Nat.reduceLeDiff, Nat.reduceLT, Nat.reduceMul, Nat.reduceSub, c62]
  refine ⟨_, k, ?_⟩
  simp (maxSteps := 1000000) (disch := omega) only [rg, opX, opI, look, nth, setN, outO, binO, intO, strO, argsE, appd, cpyO, slcO, slsO, bndO, lo1, mnxO, bldO, bldV, splice, rd, fpS, lk, isNil, Nat.reduceBEq, Nat.reduceEqDiff, Nat.reduceAdd, Int.reduceEq, Int.reduceLT, Int.reduceLE, Int.reduceToNat, reduceIte, reduceCtorEq, Nat.reduceLeDiff, Nat.reduceLT, Nat.reduceMul, Nat.reduceSub]
  (refine fin_x rfl ?_ ?_ <;> simp [pack, lo, loL, V.closed, closedL, mv_closed, w32, crcS])

theorem ref_seal (s : Str) (hs : s.length ≤ 1000000000) : PCall Try.prog 33 [.str s] (.str (sealS s)) := by
  refine en33 (by simp) (by simp [closedL, V.closed]) ?_
  simp (maxSteps := 1000000) (disch := omega) only [rg, opX, opI, look, nth, setN, outO, binO, intO, strO, argsE, appd, cpyO, slcO, slsO, bndO, lo1, mnxO, bldO, bldV, splice, rd, fpS, lk, isNil, Nat.reduceBEq, Nat.reduceEqDiff, Nat.reduceAdd, Int.reduceEq, Int.reduceLT, Int.reduceLE, Int.reduceToNat, reduceIte, reduceCtorEq, Nat.reduceLeDiff, Nat.reduceLT, Nat.reduceMul, Nat.reduceSub, c33]
  refine ⟨_, ref_of s hs, ?_⟩
  have h := (crcS s).isLt
  have q0 : IntKind.u8.wrap (((crcS s).toNat : Int) % 256) = ((UInt8.ofNat ((crcS s).toNat % 256)).toNat : Int) := by
    rw [show (((crcS s).toNat : Int) % 256) = (((crcS s).toNat % 256 : Nat) : Int) by omega, wrap_u8, Nat.mod_mod]
  have q1 : IntKind.u8.wrap (((crcS s).toNat : Int) / 256 % 256) = ((UInt8.ofNat ((crcS s).toNat / 256 % 256)).toNat : Int) := by
    rw [show (((crcS s).toNat : Int) / 256 % 256) = (((crcS s).toNat / 256 % 256 : Nat) : Int) by omega, wrap_u8, Nat.mod_mod]
  have q2 : IntKind.u8.wrap (((crcS s).toNat : Int) / 65536 % 256) = ((UInt8.ofNat ((crcS s).toNat / 65536 % 256)).toNat : Int) := by
    rw [show (((crcS s).toNat : Int) / 65536 % 256) = (((crcS s).toNat / 65536 % 256 : Nat) : Int) by omega, wrap_u8, Nat.mod_mod]
  have q3 : IntKind.u8.wrap (((crcS s).toNat : Int) / 16777216) = ((UInt8.ofNat ((crcS s).toNat / 16777216 % 256)).toNat : Int) := by
    rw [show (((crcS s).toNat : Int) / 16777216) = (((crcS s).toNat / 16777216 : Nat) : Int) by omega, wrap_u8]
  have e1 : IntKind.u32.wrap (((crcS s).toNat : Int) / 256) = ((crcS s).toNat : Int) / 256 := by simp [IntKind.wrap, IntKind.bits, IntKind.signed]; omega
  have e2 : IntKind.u32.wrap (((crcS s).toNat : Int) / 65536) = ((crcS s).toNat : Int) / 65536 := by simp [IntKind.wrap, IntKind.bits, IntKind.signed]; omega
  have e3 : IntKind.u32.wrap (((crcS s).toNat : Int) / 16777216) = ((crcS s).toNat : Int) / 16777216 := by simp [IntKind.wrap, IntKind.bits, IntKind.signed]; omega
  simp (maxSteps := 1000000) (disch := omega) only [rg, opX, opI, look, nth, setN, outO, binO, intO, strO, argsE, appd, cpyO, slcO, slsO, bndO, lo1, mnxO, bldO, bldV, splice, rd, fpS, lk, isNil, Nat.reduceBEq, Nat.reduceEqDiff, Nat.reduceAdd, Int.reduceEq, Int.reduceLT, Int.reduceLE, Int.reduceToNat, reduceIte, reduceCtorEq, Nat.reduceLeDiff, Nat.reduceLT, Nat.reduceMul, Nat.reduceSub, w32, e1, e2, e3, q0, q1, q2, q3]
  refine ⟨le4 (crcS s), rfl, ?_⟩
  simp (maxSteps := 1000000) (disch := omega) only [rg, opX, opI, look, nth, setN, outO, binO, intO, strO, argsE, appd, cpyO, slcO, slsO, bndO, lo1, mnxO, bldO, bldV, splice, rd, fpS, lk, isNil, Nat.reduceBEq, Nat.reduceEqDiff, Nat.reduceAdd, Int.reduceEq, Int.reduceLT, Int.reduceLE, Int.reduceToNat, reduceIte, reduceCtorEq, Nat.reduceLeDiff, Nat.reduceLT, Nat.reduceMul, Nat.reduceSub]
  refine ⟨by simp [le4]; omega, ?_⟩
  (refine fin_x rfl ?_ ?_ <;> simp [pack, lo, loL, V.closed, closedL, mv_closed, sealS])

theorem ref_open (s : Str) (hs : s.length ≤ 1000000000) : PCall Try.prog 39 [.str s] (sV (openS s)) := by
  refine en39 (by simp) (by simp [closedL, V.closed]) ?_
  simp (maxSteps := 1000000) (disch := omega) only [rg, opX, opI, look, nth, setN, outO, binO, intO, strO, argsE, appd, cpyO, slcO, slsO, bndO, lo1, mnxO, bldO, bldV, splice, rd, fpS, lk, isNil, Nat.reduceBEq, Nat.reduceEqDiff, Nat.reduceAdd, Int.reduceEq, Int.reduceLT, Int.reduceLE, Int.reduceToNat, reduceIte, reduceCtorEq, Nat.reduceLeDiff, Nat.reduceLT, Nat.reduceMul, Nat.reduceSub, c39]
  refine ⟨fun h => ?_, fun h => ?_⟩
  · (refine fin_x rfl ?_ ?_ <;> simp [pack, lo, loL, V.closed, closedL, mv_closed, sV, openS, show s.length < 4 by omega])
  · have h4 : ¬ s.length < 4 := by omega
    have e : ((s.length : Int) - 4).toNat = s.length - 4 := by omega
    simp (maxSteps := 1000000) (disch := omega) only [rg, opX, opI, look, nth, setN, outO, binO, intO, strO, argsE, appd, cpyO, slcO, slsO, bndO, lo1, mnxO, bldO, bldV, splice, rd, fpS, lk, isNil, Nat.reduceBEq, Nat.reduceEqDiff, Nat.reduceAdd, Int.reduceEq, Int.reduceLT, Int.reduceLE, Int.reduceToNat, reduceIte, reduceCtorEq, Nat.reduceLeDiff, Nat.reduceLT, Nat.reduceMul, Nat.reduceSub, e]
    refine ⟨by omega, _, ref_seal (s.take (s.length - 4)) (by simp; omega), ?_⟩
    simp (maxSteps := 1000000) (disch := omega) only [rg, opX, opI, look, nth, setN, outO, binO, intO, strO, argsE, appd, cpyO, slcO, slsO, bndO, lo1, mnxO, bldO, bldV, splice, rd, fpS, lk, isNil, Nat.reduceBEq, Nat.reduceEqDiff, Nat.reduceAdd, Int.reduceEq, Int.reduceLT, Int.reduceLE, Int.reduceToNat, reduceIte, reduceCtorEq, Nat.reduceLeDiff, Nat.reduceLT, Nat.reduceMul, Nat.reduceSub]
    refine ⟨fun h2 => ?_, fun h2 => ?_⟩
    · (refine fin_x rfl ?_ ?_ <;> simp [pack, lo, loL, V.closed, closedL, mv_closed, sV, openS, h4, h2])
    · (refine fin_x rfl ?_ ?_ <;> simp [pack, lo, loL, V.closed, closedL, mv_closed, sV, openS, h4, h2])

end Go.Proofs.Ytjlpmndipceboaa.Ev
end
section
set_option linter.unusedSimpArgs false
set_option linter.unusedVariables false
set_option maxRecDepth 10000
namespace Go.Proofs.Ytjlpmndipceboaa.Ev
open Go

def riseS : Int → List Int → Int → Bool
  | _, [], _ => true
  | last, x :: xs, n => !decide (x ≤ last) && (!decide (n ≤ x) && riseS x xs n)
def taskNumS (t : Task) : Bool := decide (1 ≤ t.tries ∧ t.tries ≤ 8 ∧ 0 ≤ t.wait ∧ t.wait ≤ 1048576 ∧ 1 ≤ t.lease ∧ t.lease ≤ 1048576)
def taskOkS (t : Task) (n : Int) : Bool := riseS (-1) t.needs n && taskNumS t

theorem vI_len (l : List Int) : (vI l).length = l.length := mv_len
theorem vI_get {l : List Int} {i : Nat} (h : i < l.length) : (vI l)[i]? = some (.int .i64 l[i]) := mv_get h
theorem vB_len (l : List Bool) : (vB l).length = l.length := mv_len
theorem vB_get {l : List Bool} {i : Nat} (h : i < l.length) : (vB l)[i]? = some (.bool l[i]) := mv_get h

theorem dag_task (t : Task) (n : Int) (hl : t.needs.length ≤ 4611686018427387904) : PCall Try.prog 75 [taskV t, .int .i64 n] (.bool (taskOkS t n)) := by
  refine en75 (by simp) (by simp [closedL, V.closed, taskV_closed]) ?_
  simp (maxSteps := 1000000) (disch := omega) only [rg, opX, opI, look, nth, setN, outO, binO, intO, strO, argsE, appd, cpyO, slcO, slsO, bndO, lo1, mnxO, bldO, bldV, splice, rd, fpS, lk, isNil, Nat.reduceBEq, Nat.reduceEqDiff, Nat.reduceAdd, Int.reduceEq, Int.reduceLT, Int.reduceLE, Int.reduceToNat, reduceIte, reduceCtorEq, Nat.reduceLeDiff, Nat.reduceLT, Nat.reduceMul, Nat.reduceSub, c75, taskV, vI_len]
  refine x_it t.needs.length (fun i σ H => H.m 0 = some (.arr 4 [.agg [.fsl .loose 1 (vI t.needs), .int .i64 t.tries, .int .i64 t.wait, .int .i64 t.lease]]) ∧ ∃ last, riseS (-1) t.needs n = riseS last (t.needs.drop i) n ∧ σ = [(1, .int .i64 n), (2, .ptr 0 0 0), (5, .int .i64 last), (9, .fsl .loose 1 (vI t.needs)), (10, .int .i64 t.needs.length), (11, .int .i64 i)]) ⟨by simp [upd], -1, by simp, rfl⟩ ?_
  rintro T i σ ⟨q, m⟩ hi ⟨e0, last, hr, rfl⟩ hN hX hR
  simp only at e0
  simp (maxSteps := 1000000) (disch := omega) only [rg, opX, opI, look, nth, setN, outO, binO, intO, strO, argsE, appd, cpyO, slcO, slsO, bndO, lo1, mnxO, bldO, bldV, splice, rd, fpS, lk, isNil, Nat.reduceBEq, Nat.reduceEqDiff, Nat.reduceAdd, Int.reduceEq, Int.reduceLT, Int.reduceLE, Int.reduceToNat, reduceIte, reduceCtorEq, Nat.reduceLeDiff, Nat.reduceLT, Nat.reduceMul, Nat.reduceSub]
  refine ⟨fun h => ?_, fun h => ?_⟩
  · have i1 : i < t.needs.length := by omega
    have hd : t.needs.drop i = t.needs[i] :: t.needs.drop (i + 1) := List.drop_eq_getElem_cons i1
    rw [hd, riseS] at hr
    simp (maxSteps := 1000000) (disch := omega) only [rg, opX, opI, look, nth, setN, outO, binO, intO, strO, argsE, appd, cpyO, slcO, slsO, bndO, lo1, mnxO, bldO, bldV, splice, rd, fpS, lk, isNil, Nat.reduceBEq, Nat.reduceEqDiff, Nat.reduceAdd, Int.reduceEq, Int.reduceLT, Int.reduceLE, Int.reduceToNat, reduceIte, reduceCtorEq, Nat.reduceLeDiff, Nat.reduceLT, Nat.reduceMul, Nat.reduceSub, vI_get]
    by_cases c1 : t.needs[i] ≤ last
    · simp (maxSteps := 1000000) (disch := omega) only [rg, opX, opI, look, nth, setN, outO, binO, intO, strO, argsE, appd, cpyO, slcO, slsO, bndO, lo1, mnxO, bldO, bldV, splice, rd, fpS, lk, isNil, Nat.reduceBEq, Nat.reduceEqDiff, Nat.reduceAdd, Int.reduceEq, Int.reduceLT, Int.reduceLE, Int.reduceToNat, reduceIte, reduceCtorEq, Nat.reduceLeDiff, Nat.reduceLT, Nat.reduceMul, Nat.reduceSub, c1]
      refine hR _ _ ?_
      simp (maxSteps := 1000000) (disch := omega) only [rg, opX, opI, look, nth, setN, outO, binO, intO, strO, argsE, appd, cpyO, slcO, slsO, bndO, lo1, mnxO, bldO, bldV, splice, rd, fpS, lk, isNil, Nat.reduceBEq, Nat.reduceEqDiff, Nat.reduceAdd, Int.reduceEq, Int.reduceLT, Int.reduceLE, Int.reduceToNat, reduceIte, reduceCtorEq, Nat.reduceLeDiff, Nat.reduceLT, Nat.reduceMul, Nat.reduceSub]
      (refine fin_x rfl ?_ ?_ <;> simp [pack, lo, loL, V.closed, closedL, mv_closed, taskOkS, hr, c1])
    · by_cases c2 : n ≤ t.needs[i]
      · simp (maxSteps := 1000000) (disch := omega) only [rg, opX, opI, look, nth, setN, outO, binO, intO, strO, argsE, appd, cpyO, slcO, slsO, bndO, lo1, mnxO, bldO, bldV, splice, rd, fpS, lk, isNil, Nat.reduceBEq, Nat.reduceEqDiff, Nat.reduceAdd, Int.reduceEq, Int.reduceLT, Int.reduceLE, Int.reduceToNat, reduceIte, reduceCtorEq, Nat.reduceLeDiff, Nat.reduceLT, Nat.reduceMul, Nat.reduceSub, c1, c2]
        refine hR _ _ ?_
        simp (maxSteps := 1000000) (disch := omega) only [rg, opX, opI, look, nth, setN, outO, binO, intO, strO, argsE, appd, cpyO, slcO, slsO, bndO, lo1, mnxO, bldO, bldV, splice, rd, fpS, lk, isNil, Nat.reduceBEq, Nat.reduceEqDiff, Nat.reduceAdd, Int.reduceEq, Int.reduceLT, Int.reduceLE, Int.reduceToNat, reduceIte, reduceCtorEq, Nat.reduceLeDiff, Nat.reduceLT, Nat.reduceMul, Nat.reduceSub]
        (refine fin_x rfl ?_ ?_ <;> simp [pack, lo, loL, V.closed, closedL, mv_closed, taskOkS, hr, c1, c2])
      · simp (maxSteps := 1000000) (disch := omega) only [rg, opX, opI, look, nth, setN, outO, binO, intO, strO, argsE, appd, cpyO, slcO, slsO, bndO, lo1, mnxO, bldO, bldV, splice, rd, fpS, lk, isNil, Nat.reduceBEq, Nat.reduceEqDiff, Nat.reduceAdd, Int.reduceEq, Int.reduceLT, Int.reduceLE, Int.reduceToNat, reduceIte, reduceCtorEq, Nat.reduceLeDiff, Nat.reduceLT, Nat.reduceMul, Nat.reduceSub, c1, c2]
        exact hN _ _ i1 ⟨e0, t.needs[i], by rw [hr]; simp [c1, c2], rfl⟩
  · obtain rfl : i = t.needs.length := by omega
    rw [List.drop_length, riseS] at hr
    refine hX _ _ _ ?_
    simp (maxSteps := 1000000) (disch := omega) only [rg, opX, opI, look, nth, setN, outO, binO, intO, strO, argsE, appd, cpyO, slcO, slsO, bndO, lo1, mnxO, bldO, bldV, splice, rd, fpS, lk, isNil, Nat.reduceBEq, Nat.reduceEqDiff, Nat.reduceAdd, Int.reduceEq, Int.reduceLT, Int.reduceLE, Int.reduceToNat, reduceIte, reduceCtorEq, Nat.reduceLeDiff, Nat.reduceLT, Nat.reduceMul, Nat.reduceSub]
    refine x_frz0 ?_
    by_cases c1 : 1 ≤ t.tries
    · by_cases c2 : t.tries ≤ 8
      · by_cases c3 : 0 ≤ t.wait
        · by_cases c4 : t.wait ≤ 1048576
          · by_cases c5 : 1 ≤ t.lease
            · by_cases c6 : t.lease ≤ 1048576
              · simp (maxSteps := 1000000) (disch := omega) only [rg, opX, opI, look, nth, setN, outO, binO, intO, strO, argsE, appd, cpyO, slcO, slsO, bndO, lo1, mnxO, bldO, bldV, splice, rd, fpS, lk, isNil, Nat.reduceBEq, Nat.reduceEqDiff, Nat.reduceAdd, Int.reduceEq, Int.reduceLT, Int.reduceLE, Int.reduceToNat, reduceIte, reduceCtorEq, Nat.reduceLeDiff, Nat.reduceLT, Nat.reduceMul, Nat.reduceSub, e0, c1, c2, c3, c4, c5, c6]
                (refine fin_x rfl ?_ ?_ <;> simp [pack, lo, loL, V.closed, closedL, mv_closed, taskOkS, taskNumS, hr, c1, c2, c3, c4, c5, c6])
              · simp (maxSteps := 1000000) (disch := omega) only [rg, opX, opI, look, nth, setN, outO, binO, intO, strO, argsE, appd, cpyO, slcO, slsO, bndO, lo1, mnxO, bldO, bldV, splice, rd, fpS, lk, isNil, Nat.reduceBEq, Nat.reduceEqDiff, Nat.reduceAdd, Int.reduceEq, Int.reduceLT, Int.reduceLE, Int.reduceToNat, reduceIte, reduceCtorEq, Nat.reduceLeDiff, Nat.reduceLT, Nat.reduceMul, Nat.reduceSub, e0, c1, c2, c3, c4, c5, c6]
                (refine fin_x rfl ?_ ?_ <;> simp [pack, lo, loL, V.closed, closedL, mv_closed, taskOkS, taskNumS, hr, c6])
            · simp (maxSteps := 1000000) (disch := omega) only [rg, opX, opI, look, nth, setN, outO, binO, intO, strO, argsE, appd, cpyO, slcO, slsO, bndO, lo1, mnxO, bldO, bldV, splice, rd, fpS, lk, isNil, Nat.reduceBEq, Nat.reduceEqDiff, Nat.reduceAdd, Int.reduceEq, Int.reduceLT, Int.reduceLE, Int.reduceToNat, reduceIte, reduceCtorEq, Nat.reduceLeDiff, Nat.reduceLT, Nat.reduceMul, Nat.reduceSub, e0, c1, c2, c3, c4, c5]
              (refine fin_x rfl ?_ ?_ <;> simp [pack, lo, loL, V.closed, closedL, mv_closed, taskOkS, taskNumS, hr, c5])
          · simp (maxSteps := 1000000) (disch := omega) only [rg, opX, opI, look, nth, setN, outO, binO, intO, strO, argsE, appd, cpyO, slcO, slsO, bndO, lo1, mnxO, bldO, bldV, splice, rd, fpS, lk, isNil, Nat.reduceBEq, Nat.reduceEqDiff, Nat.reduceAdd, Int.reduceEq, Int.reduceLT, Int.reduceLE, Int.reduceToNat, reduceIte, reduceCtorEq, Nat.reduceLeDiff, Nat.reduceLT, Nat.reduceMul, Nat.reduceSub, e0, c1, c2, c3, c4]
            (refine fin_x rfl ?_ ?_ <;> simp [pack, lo, loL, V.closed, closedL, mv_closed, taskOkS, taskNumS, hr, c4])
        · simp (maxSteps := 1000000) (disch := omega) only [rg, opX, opI, look, nth, setN, outO, binO, intO, strO, argsE, appd, cpyO, slcO, slsO, bndO, lo1, mnxO, bldO, bldV, splice, rd, fpS, lk, isNil, Nat.reduceBEq, Nat.reduceEqDiff, Nat.reduceAdd, Int.reduceEq, Int.reduceLT, Int.reduceLE, Int.reduceToNat, reduceIte, reduceCtorEq, Nat.reduceLeDiff, Nat.reduceLT, Nat.reduceMul, Nat.reduceSub, e0, c1, c2, c3]
          (refine fin_x rfl ?_ ?_ <;> simp [pack, lo, loL, V.closed, closedL, mv_closed, taskOkS, taskNumS, hr, c3])
      · simp (maxSteps := 1000000) (disch := omega) only [rg, opX, opI, look, nth, setN, outO, binO, intO, strO, argsE, appd, cpyO, slcO, slsO, bndO, lo1, mnxO, bldO, bldV, splice, rd, fpS, lk, isNil, Nat.reduceBEq, Nat.reduceEqDiff, Nat.reduceAdd, Int.reduceEq, Int.reduceLT, Int.reduceLE, Int.reduceToNat, reduceIte, reduceCtorEq, Nat.reduceLeDiff, Nat.reduceLT, Nat.reduceMul, Nat.reduceSub, e0, c1, c2]
        (refine fin_x rfl ?_ ?_ <;> simp [pack, lo, loL, V.closed, closedL, mv_closed, taskOkS, taskNumS, hr, c2])
    · simp (maxSteps := 1000000) (disch := omega) only [rg, opX, opI, look, nth, setN, outO, binO, intO, strO, argsE, appd, cpyO, slcO, slsO, bndO, lo1, mnxO, bldO, bldV, splice, rd, fpS, lk, isNil, Nat.reduceBEq, Nat.reduceEqDiff, Nat.reduceAdd, Int.reduceEq, Int.reduceLT, Int.reduceLE, Int.reduceToNat, reduceIte, reduceCtorEq, Nat.reduceLeDiff, Nat.reduceLT, Nat.reduceMul, Nat.reduceSub, e0, c1]
      (refine fin_x rfl ?_ ?_ <;> simp [pack, lo, loL, V.closed, closedL, mv_closed, taskOkS, taskNumS, hr, c1])

/-- What can be done next. -/
def freeB (t : Task) (done : List Bool) (i : Nat) : Bool := !done.getD i false && t.needs.all fun x => done.getD x.toNat false
def freeS (ts : List Task) (done : List Bool) (k : Nat) : List Int := (((ts.take k).zipIdx).filter fun p => freeB p.1 done p.2).map fun p => (p.2 : Int)
theorem freeS_succ {ts : List Task} {done : List Bool} {k : Nat} (h : k < ts.length) : freeS ts done (k + 1) = if freeB ts[k] done k = true then freeS ts done k ++ [(k : Int)] else freeS ts done k := by
  rw [freeS, List.take_succ_eq_append_getElem h, List.zipIdx_append, List.filter_append, List.map_append]
  have : min k ts.length = k := by omega
  simp only [List.length_take, this, List.zipIdx_cons, List.zipIdx_nil, List.filter_cons, List.filter_nil, Nat.zero_add]
  split <;> simp [freeS]
theorem freeS_len (ts : List Task) (done : List Bool) (k : Nat) : (freeS ts done k).length ≤ k := by
  simp only [freeS, List.length_map]
  refine Nat.le_trans (List.length_filter_le _ _) ?_
  simp; omega

theorem free_clo (H : Hp) (b d : Nat) (done : List Bool) (i : Int) (hb : b < H.n) (hd : d < H.n) (h1 : H.m b = some (.arr 1 [.sl d 0 done.length])) (h2 : H.m d = some (.arr 1 (vB done))) (hi : 0 ≤ i ∧ i < done.length) :
    ACall Try.prog 88 [.int .i64 i, .ptr b 0 0] H [b, d] (.bool (!done.getD i.toNat false)) [] 0 := by
  have hne : b ≠ d := by rintro rfl; rw [h1] at h2; cases done with
    | nil => simp [vB, mv] at h2
    | cons x l => simp [vB, mv] at h2
  refine ena88 (by simp) (by simp [lowL, V.low, hb]) (fun id hid => ?_) (by simp) ?_
  · simp at hid
    rcases hid with rfl | rfl
    · exact ⟨hb, fun o ho => by rw [h1] at ho; simp at ho; subst ho; simp [Ob.low, lowL, V.low, hd]⟩
    · exact ⟨hd, fun o ho => by rw [h2] at ho; simp at ho; subst ho; exact lowL_closed _ vB_closed⟩
  have q1 : only [b, d] H.m b = some (.arr 1 [.sl d 0 done.length]) := by simp [only, h1]
  have q2 : only [b, d] H.m d = some (.arr 1 (vB done)) := by simp [only, h2]
  have hlt : i.toNat < done.length := by omega
  simp (maxSteps := 1000000) (disch := omega) only [rg, opX, opI, look, nth, setN, outO, binO, intO, strO, argsE, appd, cpyO, slcO, slsO, bndO, lo1, mnxO, bldO, bldV, splice, rd, fpS, lk, isNil, Nat.reduceBEq, Nat.reduceEqDiff, Nat.reduceAdd, Int.reduceEq, Int.reduceLT, Int.reduceLE, Int.reduceToNat, reduceIte, reduceCtorEq, Nat.reduceLeDiff, Nat.reduceLT, Nat.reduceMul, Nat.reduceSub, c88, q1, q2, vB_get]
  refine ⟨by omega, fin_A (l := [.bool (!done[i.toNat])]) rfl (.inl (by simp [pack, List.getD_eq_getElem?_getD, hlt])) (by simp) (fun id => .inr rfl)⟩

theorem con_ints {st : St} {rows : List Int} {fs cs : List V} {g : Nat} {q : Int → Bool} {H : Hp} {fp : List Nat} {kk : Nat} (hn : rows.length ≤ 1000000) (hl : lowL H.n fs = true) (hl' : lowL H.n cs = true) (hfp : FpOk H fp)
    (hg : ∀ x ∈ rows, ∀ H' : Hp, H.n ≤ H'.n → (∀ id ∈ fp, H'.m id = H.m id) → ACall Try.prog g (fs ++ [.int .i64 x] ++ cs) H' fp (.bool (q x)) [] kk) :
    ACall Try.prog 89 [.fsl st 1 (vI rows), .fn g fs cs] H fp (.bool (rows.any q)) [] (rows.length * kk) := by
  have := con_gen (f := 89) (f2 := 92) (sz := 1) (k := none) (st := st) (rows := vI rows) (fs := fs) (cs := cs) (g := g) (q := fun v => match v with | .int _ n => q n | _ => false) (H := H) (fp := fp) (kk := kk)
    ena89 ena92 (by decide) (by decide) vI_closed (fun e he => by obtain ⟨a, _, rfl⟩ := mv_mem he; rfl) (by rw [vI_len]; omega) hl hl' hfp
    (fun e he H' h1 h2 => by obtain ⟨a, ha, rfl⟩ := mv_mem he; exact hg a ha H' h1 h2)
  rw [vI_len] at this
  have e : (vI rows).any (fun v => match v with | .int _ n => q n | _ => false) = rows.any q := by simp [vI, mv, List.any_map]; rfl
  rwa [e] at this

def inR (ts : List Task) (n : Nat) : Prop := ∀ t ∈ ts, ∀ x ∈ t.needs, 0 ≤ x ∧ x < n
theorem dag_free (st : St) (ts : List Task) (done : List Bool) (d : Nat) (H : Hp) (hn : ts.length = done.length) (hl : ts.length ≤ 10) (hnl : ∀ t ∈ ts, t.needs.length ≤ 1000000) (hin : inR ts done.length) (hd : d < H.n) (hm : H.m d = some (.arr 1 (vB done))) :
    ACall Try.prog 84 [.fsl st 4 (mv taskV ts), .sl d 0 done.length] H [d] (.fsl .loose 1 (vI (freeS ts done ts.length))) [] 100 := by
  refine ena84 (by simp) (by simp [lowL, V.low, hd, lowL_closed _ (mv_closed taskV_closed)]) (fun id hid => ?_) (by simp) ?_
  · simp at hid; subst hid
    exact ⟨hd, fun o ho => by rw [hm] at ho; simp at ho; subst ho; exact lowL_closed _ vB_closed⟩
  have q2 : only [d] H.m d = some (.arr 1 (vB done)) := by simp [only, hm]
  have hdn : d ≠ H.n := by omega
  simp (maxSteps := 1000000) (disch := omega) only [rg, opX, opI, look, nth, setN, outO, binO, intO, strO, argsE, appd, cpyO, slcO, slsO, bndO, lo1, mnxO, bldO, bldV, splice, rd, fpS, lk, isNil, Nat.reduceBEq, Nat.reduceEqDiff, Nat.reduceAdd, Int.reduceEq, Int.reduceLT, Int.reduceLE, Int.reduceToNat, reduceIte, reduceCtorEq, Nat.reduceLeDiff, Nat.reduceLT, Nat.reduceMul, Nat.reduceSub, c84]
  refine x_it ts.length (fun i σ H' => H'.n ≤ H.n + 1 + 2 * i ∧ H.n + 1 ≤ H'.n ∧ H'.m H.n = some (.arr 1 [.sl d 0 done.length]) ∧ H'.m d = some (.arr 1 (vB done)) ∧ ∃ v, σ = [(5, .fn 88 [] [.ptr H.n 0 0]), (6, v), (10, .fsl st 4 (mv taskV ts)), (11, .int .i64 ts.length), (12, .int .i64 i)] ∧
    ((v = .fsl .nil 1 [] ∧ freeS ts done i = []) ∨ ∃ id, H.n < id ∧ id < H'.n ∧ v = .sl id 0 (freeS ts done i).length ∧ H'.m id = some (.arr 1 (vI (freeS ts done i))))) ?_ ?_
  · exact ⟨by simp, by simp, by simp [upd], by simp only [upd_ne hdn]; exact q2, _, rfl, .inl ⟨rfl, rfl⟩⟩
  rintro T i σ ⟨n', m⟩ hi ⟨hb1, hb2, e0, e1, v, rfl, hv⟩ hN hX hR
  simp only at hb1 hb2 e0 e1 hv
  simp (maxSteps := 1000000) (disch := omega) only [rg, opX, opI, look, nth, setN, outO, binO, intO, strO, argsE, appd, cpyO, slcO, slsO, bndO, lo1, mnxO, bldO, bldV, splice, rd, fpS, lk, isNil, Nat.reduceBEq, Nat.reduceEqDiff, Nat.reduceAdd, Int.reduceEq, Int.reduceLT, Int.reduceLE, Int.reduceToNat, reduceIte, reduceCtorEq, Nat.reduceLeDiff, Nat.reduceLT, Nat.reduceMul, Nat.reduceSub]
  refine ⟨fun h => ?_, fun h => ?_⟩
  · have i1 : i < ts.length := by omega
    have hns := freeS_succ (done := done) i1
    have ht := hin ts[i] (List.getElem_mem i1)
    have hl1 := hnl ts[i] (List.getElem_mem i1)
    have hfl := freeS_len ts done i
    have hno : ∀ b : Bool, freeB ts[i] done i = false → freeS ts done (i + 1) = freeS ts done i := fun _ hb => by rw [hns, if_neg (by rw [hb]; simp)]
    have hne1 : H.n ≠ n' := by omega
    have hne2 : d ≠ n' := by omega
    simp (maxSteps := 1000000) (disch := omega) only [rg, opX, opI, look, nth, setN, outO, binO, intO, strO, argsE, appd, cpyO, slcO, slsO, bndO, lo1, mnxO, bldO, bldV, splice, rd, fpS, lk, isNil, Nat.reduceBEq, Nat.reduceEqDiff, Nat.reduceAdd, Int.reduceEq, Int.reduceLT, Int.reduceLE, Int.reduceToNat, reduceIte, reduceCtorEq, Nat.reduceLeDiff, Nat.reduceLT, Nat.reduceMul, Nat.reduceSub, taskV]
    refine ⟨_, _, _, _, free_clo _ H.n d done i (by simp only []; omega) (by simp only []; omega) (by simp (disch := omega) only [upd_eq, upd_ne, wo_0, wo_1, wo_2, e0]) (by simp (disch := omega) only [upd_eq, upd_ne, wo_0, wo_1, wo_2, e1]) (by omega), ?_⟩
    cases hdi : done.getD i false with
    | true =>
      have hfb : freeB ts[i] done i = false := by simp only [freeB, hdi]; rfl
      simp (maxSteps := 1000000) (disch := omega) only [rg, opX, opI, look, nth, setN, outO, binO, intO, strO, argsE, appd, cpyO, slcO, slsO, bndO, lo1, mnxO, bldO, bldV, splice, rd, fpS, lk, isNil, Nat.reduceBEq, Nat.reduceEqDiff, Nat.reduceAdd, Int.reduceEq, Int.reduceLT, Int.reduceLE, Int.reduceToNat, reduceIte, reduceCtorEq, Nat.reduceLeDiff, Nat.reduceLT, Nat.reduceMul, Nat.reduceSub, hdi]
      refine hN _ _ i1 ⟨by simp only []; omega, by simp only []; omega, (by simp (disch := omega) only [upd_eq, upd_ne, wo_0, wo_1, wo_2, e0]), (by simp (disch := omega) only [upd_eq, upd_ne, wo_0, wo_1, wo_2, e1]), _, rfl, ?_⟩
      rw [hno true hfb]
      rcases hv with ⟨rfl, he⟩ | ⟨id, h1, h2, rfl, h3⟩
      · exact .inl ⟨rfl, he⟩
      · exact .inr ⟨id, h1, by simp only []; omega, rfl, (by simp (disch := omega) only [upd_eq, upd_ne, wo_0, wo_1, wo_2, h3])⟩
    | false =>
      simp (maxSteps := 1000000) (disch := omega) only [rg, opX, opI, look, nth, setN, outO, binO, intO, strO, argsE, appd, cpyO, slcO, slsO, bndO, lo1, mnxO, bldO, bldV, splice, rd, fpS, lk, isNil, Nat.reduceBEq, Nat.reduceEqDiff, Nat.reduceAdd, Int.reduceEq, Int.reduceLT, Int.reduceLE, Int.reduceToNat, reduceIte, reduceCtorEq, Nat.reduceLeDiff, Nat.reduceLT, Nat.reduceMul, Nat.reduceSub, hdi]
      have hall : (ts[i].needs.any fun x => !done.getD x.toNat false) = !(ts[i].needs.all fun x => done.getD x.toNat false) := by rw [List.not_all_eq_any_not]
      refine ⟨_, _, _, _, con_ints (rows := ts[i].needs) (q := fun x => !done.getD x.toNat false) (fp := [H.n, d]) (kk := 0) (by omega) rfl (by simp [lowL, V.low]; omega) (fun id hid => ?_) (fun x hx H' h1 h2 => ?_), ?_⟩
      · simp at hid
        rcases hid with rfl | rfl
        · exact ⟨by simp only []; omega, fun o ho => by simp only [upd_ne hne1, e0] at ho; simp at ho; subst ho; simp [Ob.low, lowL, V.low]; omega⟩
        · exact ⟨by simp only []; omega, fun o ho => by simp only [upd_ne hne2, e1] at ho; simp at ho; subst ho; exact lowL_closed _ vB_closed⟩
      · exact free_clo H' H.n d done x (by simp only [] at h1; omega) (by simp only [] at h1; omega) (by rw [h2 _ (by simp)]; exact (by simp (disch := omega) only [upd_eq, upd_ne, wo_0, wo_1, wo_2, e0])) (by rw [h2 _ (by simp)]; exact (by simp (disch := omega) only [upd_eq, upd_ne, wo_0, wo_1, wo_2, e1])) (ht x hx)
      · rw [hall]
        cases ha : ts[i].needs.all fun x => done.getD x.toNat false with
        | false =>
          have hfb : freeB ts[i] done i = false := by simp only [freeB, ha]; simp
          simp (maxSteps := 1000000) (disch := omega) only [rg, opX, opI, look, nth, setN, outO, binO, intO, strO, argsE, appd, cpyO, slcO, slsO, bndO, lo1, mnxO, bldO, bldV, splice, rd, fpS, lk, isNil, Nat.reduceBEq, Nat.reduceEqDiff, Nat.reduceAdd, Int.reduceEq, Int.reduceLT, Int.reduceLE, Int.reduceToNat, reduceIte, reduceCtorEq, Nat.reduceLeDiff, Nat.reduceLT, Nat.reduceMul, Nat.reduceSub]
          refine hN _ _ i1 ⟨by simp only []; omega, by simp only []; omega, (by simp (disch := omega) only [upd_eq, upd_ne, wo_0, wo_1, wo_2, e0]), (by simp (disch := omega) only [upd_eq, upd_ne, wo_0, wo_1, wo_2, e1]), _, rfl, ?_⟩
          rw [hno true hfb]
          rcases hv with ⟨rfl, he⟩ | ⟨id, h1, h2, rfl, h3⟩
          · exact .inl ⟨rfl, he⟩
          · exact .inr ⟨id, h1, by simp only []; omega, rfl, (by simp (disch := omega) only [upd_eq, upd_ne, wo_0, wo_1, wo_2, h3])⟩
        | true =>
          have hfb : freeB ts[i] done i = true := by simp only [freeB, ha, hdi]; rfl
          have hs2 : vI (freeS ts done i) ++ [.int .i64 i] = vI (freeS ts done (i + 1)) := by rw [hns, if_pos hfb]; exact mv_app1
          have hl3 : (freeS ts done (i + 1)).length = (freeS ts done i).length + 1 := by rw [hns, if_pos hfb]; simp
          have ht3 : List.take (freeS ts done i).length (vI (freeS ts done i)) = vI (freeS ts done i) := List.take_of_length_le (by rw [vI_len]; omega)
          rcases hv with ⟨rfl, he⟩ | ⟨id, h1, h2, rfl, h3⟩
          · simp (maxSteps := 1000000) (disch := omega) only [rg, opX, opI, look, nth, setN, outO, binO, intO, strO, argsE, appd, cpyO, slcO, slsO, bndO, lo1, mnxO, bldO, bldV, splice, rd, fpS, lk, isNil, Nat.reduceBEq, Nat.reduceEqDiff, Nat.reduceAdd, Int.reduceEq, Int.reduceLT, Int.reduceLE, Int.reduceToNat, reduceIte, reduceCtorEq, Nat.reduceLeDiff, Nat.reduceLT, Nat.reduceMul, Nat.reduceSub, appO, Nat.mul_zero]
            refine hN _ _ i1 ⟨by simp only []; omega, by simp only []; omega, (by simp (disch := omega) only [upd_eq, upd_ne, wo_0, wo_1, wo_2, e0]), (by simp (disch := omega) only [upd_eq, upd_ne, wo_0, wo_1, wo_2, e1]), _, rfl, .inr ⟨n' + 1, by omega, by simp, by rw [hl3, he]; rfl, by rw [← hs2, he]; simp [upd, vI, mv]⟩⟩
          · simp (maxSteps := 1000000) (disch := omega) only [rg, opX, opI, look, nth, setN, outO, binO, intO, strO, argsE, appd, cpyO, slcO, slsO, bndO, lo1, mnxO, bldO, bldV, splice, rd, fpS, lk, isNil, Nat.reduceBEq, Nat.reduceEqDiff, Nat.reduceAdd, Int.reduceEq, Int.reduceLT, Int.reduceLE, Int.reduceToNat, reduceIte, reduceCtorEq, Nat.reduceLeDiff, Nat.reduceLT, Nat.reduceMul, Nat.reduceSub, appO, h3, hs2, ht3, vI_len, Nat.mul_zero]
            exact ⟨by omega, hN _ _ i1 ⟨by simp only []; omega, by simp only []; omega, (by simp (disch := omega) only [upd_eq, upd_ne, wo_0, wo_1, wo_2, e0]), (by simp (disch := omega) only [upd_eq, upd_ne, wo_0, wo_1, wo_2, e1]), _, rfl, .inr ⟨n' + 1, by omega, by simp, by rw [hl3], (by simp (disch := omega) only [upd_eq, upd_ne, wo_0, wo_1, wo_2])⟩⟩⟩
  · obtain rfl : i = ts.length := by omega
    refine hX _ _ _ ?_
    simp (maxSteps := 1000000) (disch := omega) only [rg, opX, opI, look, nth, setN, outO, binO, intO, strO, argsE, appd, cpyO, slcO, slsO, bndO, lo1, mnxO, bldO, bldV, splice, rd, fpS, lk, isNil, Nat.reduceBEq, Nat.reduceEqDiff, Nat.reduceAdd, Int.reduceEq, Int.reduceLT, Int.reduceLE, Int.reduceToNat, reduceIte, reduceCtorEq, Nat.reduceLeDiff, Nat.reduceLT, Nat.reduceMul, Nat.reduceSub]
    rcases hv with ⟨rfl, he⟩ | ⟨id, h1, h2, rfl, h3⟩
    · refine x_frz0 ?_
      simp (maxSteps := 1000000) (disch := omega) only [rg, opX, opI, look, nth, setN, outO, binO, intO, strO, argsE, appd, cpyO, slcO, slsO, bndO, lo1, mnxO, bldO, bldV, splice, rd, fpS, lk, isNil, Nat.reduceBEq, Nat.reduceEqDiff, Nat.reduceAdd, Int.reduceEq, Int.reduceLT, Int.reduceLE, Int.reduceToNat, reduceIte, reduceCtorEq, Nat.reduceLeDiff, Nat.reduceLT, Nat.reduceMul, Nat.reduceSub]
      exact fin_A (l := [.fsl .nil 1 []]) rfl (.inr (.inl (by rw [he]; rfl))) (by simp only []; omega) (fun j => by
        by_cases hj : j = d
        · subst hj; right; simp only [appd, q2, e1]
        · left; simp [appd, only, hj])
    · refine x_frz [id] ?_; simp only [vr, frz_p]; rw [frz_row (id := id) (sz := 1) (l := vI (freeS ts done ts.length)) (by first | assumption | (simp [upd]; done) | (simp [upd, *]; done)) (by simp) (by first | rfl | (simp [mv_len, vI_len, vI_closed] <;> omega)) (by simp [mv_closed, V.closed, vI_len, vI_closed])]
      simp (maxSteps := 1000000) (disch := omega) only [rg, opX, opI, look, nth, setN, outO, binO, intO, strO, argsE, appd, cpyO, slcO, slsO, bndO, lo1, mnxO, bldO, bldV, splice, rd, fpS, lk, isNil, Nat.reduceBEq, Nat.reduceEqDiff, Nat.reduceAdd, Int.reduceEq, Int.reduceLT, Int.reduceLE, Int.reduceToNat, reduceIte, reduceCtorEq, Nat.reduceLeDiff, Nat.reduceLT, Nat.reduceMul, Nat.reduceSub]
      exact fin_A (l := [.fsl .loose 1 (vI (freeS ts done ts.length))]) rfl (.inl rfl) (by simp only []; omega) (fun j => by
        by_cases hj : j = d
        · subst hj; right
          simp only [appd, q2]
          rw [wo_1 (by omega)]; exact e1.symm
        · left; simp [appd, only, hj])

end Go.Proofs.Ytjlpmndipceboaa.Ev
end
section
set_option linter.unusedSimpArgs false
set_option linter.unusedVariables false
set_option maxRecDepth 10000
namespace Go.Proofs.Ytjlpmndipceboaa.Ev
open Go

def orderS (ts : List Task) : Nat → List Bool → List Int → List Int
  | 0, _, out => out
  | k + 1, done, out => match freeS ts done ts.length with | [] => out | i :: _ => orderS ts k (done.set i.toNat true) (out ++ [i])
theorem freeS_mem {ts : List Task} {done : List Bool} {x : Int} (h : x ∈ freeS ts done ts.length) : ∃ i : Nat, x = i ∧ ∃ hi : i < ts.length, freeB ts[i] done i = true := by
  simp only [freeS, List.mem_map, List.mem_filter, List.take_length] at h
  obtain ⟨⟨t, i⟩, ⟨h1, h2⟩, rfl⟩ := h
  obtain ⟨_, h3, h4⟩ := List.mem_zipIdx h1
  simp at h3 h4
  exact ⟨i, rfl, h3, by rw [← h4]; exact h2⟩
theorem freeS_full {ts : List Task} {done : List Bool} (hl : ts.length = done.length) (h : done.count true = done.length) : freeS ts done ts.length = [] := by
  cases hf : freeS ts done ts.length with
  | nil => rfl
  | cons x l =>
    obtain ⟨i, rfl, hi, hb⟩ := freeS_mem (x := x) (by rw [hf]; simp)
    have hd : done.getD i false = true := by
      have := (List.count_eq_length.1 h) done[i] (List.getElem_mem (by omega))
      rw [List.getD_eq_getElem?_getD]; simp [show i < done.length by omega, ← this]
    rw [freeB, hd] at hb; simp at hb
theorem count_set {done : List Bool} {i : Nat} (hi : i < done.length) (h : done.getD i false = false) : (done.set i true).count true = done.count true + 1 := by
  rw [List.count_set hi]
  have : done[i] = false := by simpa [List.getD_eq_getElem?_getD, hi] using h
  simp [this]

def orderF (ts : List Task) : List Int := orderS ts (ts.length + 1) (List.replicate ts.length false) []

theorem dag_order (st : St) (ts : List Task) (hl : ts.length ≤ 10) (hnl : ∀ t ∈ ts, t.needs.length ≤ 1000000) (hin : inR ts ts.length) : PCall Try.prog 76 [.fsl st 4 (mv taskV ts)] (.fsl .loose 1 (vI (orderF ts))) := by
  refine en76 (by simp) (by simp [closedL, V.closed, mv_closed taskV_closed]) ?_
  simp (maxSteps := 1000000) (disch := omega) only [rg, opX, opI, look, nth, setN, outO, binO, intO, strO, argsE, appd, cpyO, slcO, slsO, bndO, lo1, mnxO, bldO, bldV, splice, rd, fpS, lk, isNil, Nat.reduceBEq, Nat.reduceEqDiff, Nat.reduceAdd, Int.reduceEq, Int.reduceLT, Int.reduceLE, Int.reduceToNat, reduceIte, reduceCtorEq, Nat.reduceLeDiff, Nat.reduceLT, Nat.reduceMul, Nat.reduceSub, c76]
  refine ⟨by omega, ?_⟩
  refine x_it ts.length (fun i σ H => 1 ≤ H.n ∧ ∃ done out v, done.length = ts.length ∧ done.count true = i ∧ out.length = i ∧ orderF ts = orderS ts (ts.length + 1 - i) done out ∧ H.m 0 = some (.arr 1 (vB done)) ∧ σ = [(0, .fsl st 4 (mv taskV ts)), (3, .sl 0 0 ts.length), (4, v)] ∧
    ((v = .fsl .nil 1 [] ∧ out = []) ∨ ∃ id, 1 ≤ id ∧ id < H.n ∧ v = .sl id 0 out.length ∧ H.m id = some (.arr 1 (vI out)))) ?_ ?_
  · exact ⟨Nat.le_refl 1, List.replicate ts.length false, [], _, by simp, by simp [List.count_replicate], rfl, rfl, by simp [upd, vB, mv], rfl, .inl ⟨rfl, rfl⟩⟩
  rintro T i σ ⟨q, m⟩ hi ⟨hq, done, out, v, h1, h2, h3, h4, e0, rfl, hv⟩ hN hX hR
  simp only at hq e0 hv
  have fr := dag_free st ts done 0 ⟨q, m⟩ (by omega) hl hnl (by rw [h1]; exact hin) hq e0
  rw [h1] at fr
  have h5 : ts.length + 1 - i = (ts.length - i) + 1 := by omega
  rw [h5, orderS] at h4
  simp (maxSteps := 1000000) (disch := omega) only [rg, opX, opI, look, nth, setN, outO, binO, intO, strO, argsE, appd, cpyO, slcO, slsO, bndO, lo1, mnxO, bldO, bldV, splice, rd, fpS, lk, isNil, Nat.reduceBEq, Nat.reduceEqDiff, Nat.reduceAdd, Int.reduceEq, Int.reduceLT, Int.reduceLE, Int.reduceToNat, reduceIte, reduceCtorEq, Nat.reduceLeDiff, Nat.reduceLT, Nat.reduceMul, Nat.reduceSub]
  refine ⟨_, _, _, _, fr, ?_⟩
  cases hf : freeS ts done ts.length with
  | nil =>
    rw [hf] at h4; simp only at h4
    simp (maxSteps := 1000000) (disch := omega) only [rg, opX, opI, look, nth, setN, outO, binO, intO, strO, argsE, appd, cpyO, slcO, slsO, bndO, lo1, mnxO, bldO, bldV, splice, rd, fpS, lk, isNil, Nat.reduceBEq, Nat.reduceEqDiff, Nat.reduceAdd, Int.reduceEq, Int.reduceLT, Int.reduceLE, Int.reduceToNat, reduceIte, reduceCtorEq, Nat.reduceLeDiff, Nat.reduceLT, Nat.reduceMul, Nat.reduceSub, vI_len, Int.natCast_zero]
    refine hR _ _ ?_
    simp (maxSteps := 1000000) (disch := omega) only [rg, opX, opI, look, nth, setN, outO, binO, intO, strO, argsE, appd, cpyO, slcO, slsO, bndO, lo1, mnxO, bldO, bldV, splice, rd, fpS, lk, isNil, Nat.reduceBEq, Nat.reduceEqDiff, Nat.reduceAdd, Int.reduceEq, Int.reduceLT, Int.reduceLE, Int.reduceToNat, reduceIte, reduceCtorEq, Nat.reduceLeDiff, Nat.reduceLT, Nat.reduceMul, Nat.reduceSub]
    rcases hv with ⟨rfl, rfl⟩ | ⟨id, g1, g2, rfl, g3⟩
    · (refine fin_x rfl ?_ ?_ <;> simp [pack, lo, loL, V.closed, closedL, mv_closed, h4, vI, mv])
    · refine fin_y (v := .fsl .loose 1 (vI out)) rfl (snap_sl g3 vI_closed (vI_len out).symm) (by simp [lo, vI_lo, h4])
  | cons x l =>
    obtain ⟨k, hk, hk1, hk2⟩ := freeS_mem (x := x) (by rw [hf]; simp)
    subst hk
    rw [hf] at h4; simp only at h4
    simp only [freeB, Bool.and_eq_true, Bool.not_eq_true'] at hk2
    have hdk : k < done.length := by omega
    have hc := count_set hdk hk2.1
    have hlt : i < ts.length := by
      rcases Nat.lt_or_ge i ts.length with h | h
      · exact h
      · have := freeS_full (ts := ts) (by omega) (show done.count true = done.length by omega)
        rw [this] at hf; cases hf
    have hpos : ¬ ((l.length + 1 : Nat) : Int) = 0 := by omega
    have hg0 : (vI ((k : Int) :: l))[0]? = some (.int .i64 k) := rfl
    simp (maxSteps := 1000000) (disch := omega) only [rg, opX, opI, look, nth, setN, outO, binO, intO, strO, argsE, appd, cpyO, slcO, slsO, bndO, lo1, mnxO, bldO, bldV, splice, rd, fpS, lk, isNil, Nat.reduceBEq, Nat.reduceEqDiff, Nat.reduceAdd, Int.reduceEq, Int.reduceLT, Int.reduceLE, Int.reduceToNat, reduceIte, reduceCtorEq, Nat.reduceLeDiff, Nat.reduceLT, Nat.reduceMul, Nat.reduceSub, vI_len, hpos, hg0, show (0 : Int).toNat = 0 from rfl, e0, vB_get hdk, h1]
    refine ⟨by omega, ?_⟩
    have hset : (vB done).set k (.bool true) = vB (done.set k true) := mv_set
    have e6 : ts.length + 1 - (i + 1) = ts.length - i := by omega
    have hl3 : (out ++ [(k : Int)]).length = out.length + 1 := by simp
    have ho : vI out ++ [.int .i64 k] = vI (out ++ [(k : Int)]) := mv_app1
    rcases hv with ⟨rfl, rfl⟩ | ⟨id, g1, g2, rfl, g3⟩
    · simp (maxSteps := 1000000) (disch := omega) only [rg, opX, opI, look, nth, setN, outO, binO, intO, strO, argsE, appd, cpyO, slcO, slsO, bndO, lo1, mnxO, bldO, bldV, splice, rd, fpS, lk, isNil, Nat.reduceBEq, Nat.reduceEqDiff, Nat.reduceAdd, Int.reduceEq, Int.reduceLT, Int.reduceLE, Int.reduceToNat, reduceIte, reduceCtorEq, Nat.reduceLeDiff, Nat.reduceLT, Nat.reduceMul, Nat.reduceSub, appO, hset]
      exact hN _ _ hlt ⟨by simp only []; omega, done.set k true, [] ++ [(k : Int)], _, by simpa using h1, by rw [hc, h2], by simp at h3 ⊢; omega, by rw [e6]; simpa using h4, (by simp (disch := omega) only [upd_eq, upd_ne, wo_0, wo_1, wo_2]), rfl, .inr ⟨q + 100, by omega, by simp, rfl, by rw [← ho]; simp [upd, vI, mv]⟩⟩
    · have ht3 : List.take out.length (vI out) = vI out := List.take_of_length_le (by rw [vI_len]; omega)
      have hid : id ≠ 0 := by omega
      simp (maxSteps := 1000000) (disch := omega) only [rg, opX, opI, look, nth, setN, outO, binO, intO, strO, argsE, appd, cpyO, slcO, slsO, bndO, lo1, mnxO, bldO, bldV, splice, rd, fpS, lk, isNil, Nat.reduceBEq, Nat.reduceEqDiff, Nat.reduceAdd, Int.reduceEq, Int.reduceLT, Int.reduceLE, Int.reduceToNat, reduceIte, reduceCtorEq, Nat.reduceLeDiff, Nat.reduceLT, Nat.reduceMul, Nat.reduceSub, appO, hset, g3, vI_len, ht3, ho]
      exact ⟨by omega, hN _ _ hlt ⟨by simp only []; omega, done.set k true, out ++ [(k : Int)], _, by simpa using h1, by rw [hc, h2], by rw [hl3, h3], by rw [e6]; simpa using h4, (by simp (disch := omega) only [upd_eq, upd_ne, wo_0, wo_1, wo_2]), rfl, .inr ⟨q + 100, by omega, by simp, by rw [hl3], (by simp (disch := omega) only [upd_eq, upd_ne, wo_0, wo_1, wo_2])⟩⟩⟩

def dagRightS (d : Dag) : Int :=
  if 10 < d.tasks.length then 2 else if d.tasks.length < 1 ∨ d.name.length < 1 ∨ 16 < d.name.length ∨ (d.tasks.any fun t => !taskOkS t d.tasks.length) = true then 1 else if (orderF d.tasks).length < d.tasks.length then 160 else 0

theorem rise_range : ∀ {l : List Int} {last n : Int}, riseS last l n = true → -1 ≤ last → (∀ x ∈ l, 0 ≤ x ∧ x < n) ∧ (l.length : Int) ≤ max (n - 1 - last) 0
  | [], last, n, _, _ => ⟨by simp, by simp; omega⟩
  | x :: xs, last, n, h, h0 => by
    simp only [riseS, Bool.and_eq_true, Bool.not_eq_true', decide_eq_false_iff_not] at h
    obtain ⟨h1, h2, h3⟩ := h
    obtain ⟨k1, k2⟩ := rise_range h3 (by omega)
    refine ⟨fun y hy => ?_, by simp; omega⟩
    rcases List.mem_cons.1 hy with rfl | hy
    · omega
    · exact k1 y hy

theorem right_clo (H : Hp) (b : Nat) (t : Task) (n : Int) (hb : b < H.n) (h1 : H.m b = some (.arr 1 [.int .i64 n])) (hl : t.needs.length ≤ 4611686018427387904) :
    ACall Try.prog 74 [taskV t, .ptr b 0 0] H [b] (.bool (!taskOkS t n)) [] 1 := by
  refine ena74 (by simp) (by simp [lowL, V.low, hb, V.low_closed _ (taskV_closed t)]) (fun id hid => ?_) (by simp) ?_
  · simp at hid; subst hid
    exact ⟨hb, fun o ho => by rw [h1] at ho; simp at ho; subst ho; rfl⟩
  have q1 : only [b] H.m b = some (.arr 1 [.int .i64 n]) := by simp [only, h1]
  have hne : b ≠ H.n := by omega
  have k := dag_task t n hl
  unfold taskV at k ⊢
  simp (maxSteps := 1000000) (disch := omega) only [rg, opX, opI, look, nth, setN, outO, binO, intO, strO, argsE, appd, cpyO, slcO, slsO, bndO, lo1, mnxO, bldO, bldV, splice, rd, fpS, lk, isNil, Nat.reduceBEq, Nat.reduceEqDiff, Nat.reduceAdd, Int.reduceEq, Int.reduceLT, Int.reduceLE, Int.reduceToNat, reduceIte, reduceCtorEq, Nat.reduceLeDiff, Nat.reduceLT, Nat.reduceMul, Nat.reduceSub, c74, q1]
  refine ⟨_, k, ?_⟩
  simp (maxSteps := 1000000) (disch := omega) only [rg, opX, opI, look, nth, setN, outO, binO, intO, strO, argsE, appd, cpyO, slcO, slsO, bndO, lo1, mnxO, bldO, bldV, splice, rd, fpS, lk, isNil, Nat.reduceBEq, Nat.reduceEqDiff, Nat.reduceAdd, Int.reduceEq, Int.reduceLT, Int.reduceLE, Int.reduceToNat, reduceIte, reduceCtorEq, Nat.reduceLeDiff, Nat.reduceLT, Nat.reduceMul, Nat.reduceSub]
  refine fin_A (l := [.bool (!taskOkS t n)]) rfl (.inl rfl) (by simp) (fun j => ?_)
  by_cases hj : j = H.n
  · subst hj; left; simp [appd, only]; omega
  · right; simp [appd, upd, hj]

def unI : V → Int
  | .int _ n => n
  | _ => 0
theorem unI_map : ∀ l : List Int, (vI l).map unI = l
  | [] => rfl
  | a :: l => by show a :: (vI l).map unI = _; rw [unI_map l]
theorem con_tasks {st : St} {rows : List Task} {fs cs : List V} {g : Nat} {q : Task → Bool} {H : Hp} {fp : List Nat} {kk : Nat} (hn : rows.length ≤ 1000000) (hl : lowL H.n fs = true) (hl' : lowL H.n cs = true) (hfp : FpOk H fp)
    (hg : ∀ x ∈ rows, ∀ H' : Hp, H.n ≤ H'.n → (∀ id ∈ fp, H'.m id = H.m id) → ACall Try.prog g (fs ++ [taskV x] ++ cs) H' fp (.bool (q x)) [] kk) :
    ACall Try.prog 73 [.fsl st 4 (mv taskV rows), .fn g fs cs] H fp (.bool (rows.any q)) [] (rows.length * kk) := by
  let un : V → Task := fun v => match v with | .agg [.fsl _ _ l, .int _ a, .int _ b, .int _ c] => ⟨l.map unI, a, b, c⟩ | _ => ⟨[], 0, 0, 0⟩
  have hun : ∀ t, un (taskV t) = t := fun t => by
    simp only [un, taskV]
    rw [unI_map]
  have := con_gen (f := 73) (f2 := 83) (sz := 4) (k := some 4) (st := st) (rows := mv taskV rows) (fs := fs) (cs := cs) (g := g) (q := fun v => q (un v)) (H := H) (fp := fp) (kk := kk)
    ena73 ena83 (by decide) (by decide) (mv_closed taskV_closed) (fun e he => by obtain ⟨a, _, rfl⟩ := mv_mem he; rfl) (by rw [mv_len]; omega) hl hl' hfp
    (fun e he H' h1 h2 => by obtain ⟨a, ha, rfl⟩ := mv_mem he; simp only [hun]; exact hg a ha H' h1 h2)
  rw [mv_len] at this
  have e : (mv taskV rows).any (fun v => q (un v)) = rows.any q := by
    rw [mv, List.any_map]; congr 1; funext t; exact congrArg q (hun t)
  rwa [e] at this

theorem dag_right (d : Dag) (hd : ∀ t ∈ d.tasks, t.needs.length ≤ 4611686018427387904) (hn : d.tasks.length ≤ 4611686018427387904) : PCall Try.prog 52 [dagV d] (.int .i64 (dagRightS d)) := by
  refine en52 (by simp) (by simp [closedL, V.closed, dagV_closed]) ?_
  simp (maxSteps := 1000000) (disch := omega) only [rg, opX, opI, look, nth, setN, outO, binO, intO, strO, argsE, appd, cpyO, slcO, slsO, bndO, lo1, mnxO, bldO, bldV, splice, rd, fpS, lk, isNil, Nat.reduceBEq, Nat.reduceEqDiff, Nat.reduceAdd, Int.reduceEq, Int.reduceLT, Int.reduceLE, Int.reduceToNat, reduceIte, reduceCtorEq, Nat.reduceLeDiff, Nat.reduceLT, Nat.reduceMul, Nat.reduceSub, c52, dagV, tasksV]
  by_cases c0 : 10 < d.tasks.length
  · simp (maxSteps := 1000000) (disch := omega) only [rg, opX, opI, look, nth, setN, outO, binO, intO, strO, argsE, appd, cpyO, slcO, slsO, bndO, lo1, mnxO, bldO, bldV, splice, rd, fpS, lk, isNil, Nat.reduceBEq, Nat.reduceEqDiff, Nat.reduceAdd, Int.reduceEq, Int.reduceLT, Int.reduceLE, Int.reduceToNat, reduceIte, reduceCtorEq, Nat.reduceLeDiff, Nat.reduceLT, Nat.reduceMul, Nat.reduceSub, show (10 : Int) < d.tasks.length by omega]
    (refine fin_x rfl ?_ ?_ <;> simp [pack, lo, loL, V.closed, closedL, mv_closed, dagRightS, c0])
  by_cases c1 : d.tasks.length < 1
  · simp (maxSteps := 1000000) (disch := omega) only [rg, opX, opI, look, nth, setN, outO, binO, intO, strO, argsE, appd, cpyO, slcO, slsO, bndO, lo1, mnxO, bldO, bldV, splice, rd, fpS, lk, isNil, Nat.reduceBEq, Nat.reduceEqDiff, Nat.reduceAdd, Int.reduceEq, Int.reduceLT, Int.reduceLE, Int.reduceToNat, reduceIte, reduceCtorEq, Nat.reduceLeDiff, Nat.reduceLT, Nat.reduceMul, Nat.reduceSub, show ¬ (10 : Int) < d.tasks.length by omega, show (d.tasks.length : Int) < 1 by omega]
    (refine fin_x rfl ?_ ?_ <;> simp [pack, lo, loL, V.closed, closedL, mv_closed, dagRightS, c0, c1])
  by_cases c2 : d.name.length < 1
  · simp (maxSteps := 1000000) (disch := omega) only [rg, opX, opI, look, nth, setN, outO, binO, intO, strO, argsE, appd, cpyO, slcO, slsO, bndO, lo1, mnxO, bldO, bldV, splice, rd, fpS, lk, isNil, Nat.reduceBEq, Nat.reduceEqDiff, Nat.reduceAdd, Int.reduceEq, Int.reduceLT, Int.reduceLE, Int.reduceToNat, reduceIte, reduceCtorEq, Nat.reduceLeDiff, Nat.reduceLT, Nat.reduceMul, Nat.reduceSub, show ¬ (10 : Int) < d.tasks.length by omega, show ¬ (d.tasks.length : Int) < 1 by omega, show (d.name.length : Int) < 1 by omega]
    (refine fin_x rfl ?_ ?_ <;> simp [pack, lo, loL, V.closed, closedL, mv_closed, dagRightS, c0, c2])
  by_cases c3 : 16 < d.name.length
  · simp (maxSteps := 1000000) (disch := omega) only [rg, opX, opI, look, nth, setN, outO, binO, intO, strO, argsE, appd, cpyO, slcO, slsO, bndO, lo1, mnxO, bldO, bldV, splice, rd, fpS, lk, isNil, Nat.reduceBEq, Nat.reduceEqDiff, Nat.reduceAdd, Int.reduceEq, Int.reduceLT, Int.reduceLE, Int.reduceToNat, reduceIte, reduceCtorEq, Nat.reduceLeDiff, Nat.reduceLT, Nat.reduceMul, Nat.reduceSub, show ¬ (10 : Int) < d.tasks.length by omega, show ¬ (d.tasks.length : Int) < 1 by omega, show ¬ (d.name.length : Int) < 1 by omega, show (16 : Int) < d.name.length by omega]
    (refine fin_x rfl ?_ ?_ <;> simp [pack, lo, loL, V.closed, closedL, mv_closed, dagRightS, c0, c3])
  simp (maxSteps := 1000000) (disch := omega) only [rg, opX, opI, look, nth, setN, outO, binO, intO, strO, argsE, appd, cpyO, slcO, slsO, bndO, lo1, mnxO, bldO, bldV, splice, rd, fpS, lk, isNil, Nat.reduceBEq, Nat.reduceEqDiff, Nat.reduceAdd, Int.reduceEq, Int.reduceLT, Int.reduceLE, Int.reduceToNat, reduceIte, reduceCtorEq, Nat.reduceLeDiff, Nat.reduceLT, Nat.reduceMul, Nat.reduceSub, show ¬ (10 : Int) < d.tasks.length by omega, show ¬ (d.tasks.length : Int) < 1 by omega, show ¬ (d.name.length : Int) < 1 by omega, show ¬ (16 : Int) < d.name.length by omega]
  refine ⟨_, _, _, _, con_tasks (rows := d.tasks) (q := fun t => !taskOkS t d.tasks.length) (fp := [1]) (kk := 1) (by omega) rfl (by simp [lowL, V.low]) (fun id hid => ?_) (fun t ht H' h1 h2 => ?_), ?_⟩
  · simp at hid; subst hid
    exact ⟨by simp, fun o ho => by simp only [upd_eq] at ho; simp at ho; subst ho; rfl⟩
  · exact right_clo H' 1 t _ (by simp only [] at h1; omega) (by rw [h2 1 (by simp)]; exact (by simp (disch := omega) only [upd_eq, upd_ne, wo_0, wo_1, wo_2])) (hd t ht)
  cases ha : d.tasks.any fun t => !taskOkS t d.tasks.length with
  | true =>
    simp (maxSteps := 1000000) (disch := omega) only [rg, opX, opI, look, nth, setN, outO, binO, intO, strO, argsE, appd, cpyO, slcO, slsO, bndO, lo1, mnxO, bldO, bldV, splice, rd, fpS, lk, isNil, Nat.reduceBEq, Nat.reduceEqDiff, Nat.reduceAdd, Int.reduceEq, Int.reduceLT, Int.reduceLE, Int.reduceToNat, reduceIte, reduceCtorEq, Nat.reduceLeDiff, Nat.reduceLT, Nat.reduceMul, Nat.reduceSub]
    (refine fin_x rfl ?_ ?_ <;> simp [pack, lo, loL, V.closed, closedL, mv_closed, dagRightS, c0, c1, c2, c3, ha])
  | false =>
    have hall : ∀ t ∈ d.tasks, taskOkS t d.tasks.length = true := fun t ht => by
      have := List.any_eq_false.1 ha t ht; simpa using this
    have hrg : ∀ t ∈ d.tasks, (∀ x ∈ t.needs, 0 ≤ x ∧ x < d.tasks.length) ∧ (t.needs.length : Int) ≤ max ((d.tasks.length : Int) - 1 - (-1)) 0 := fun t ht => by
      have := hall t ht
      simp only [taskOkS, Bool.and_eq_true] at this
      exact rise_range this.1 (by omega)
    simp (maxSteps := 1000000) (disch := omega) only [rg, opX, opI, look, nth, setN, outO, binO, intO, strO, argsE, appd, cpyO, slcO, slsO, bndO, lo1, mnxO, bldO, bldV, splice, rd, fpS, lk, isNil, Nat.reduceBEq, Nat.reduceEqDiff, Nat.reduceAdd, Int.reduceEq, Int.reduceLT, Int.reduceLE, Int.reduceToNat, reduceIte, reduceCtorEq, Nat.reduceLeDiff, Nat.reduceLT, Nat.reduceMul, Nat.reduceSub]
    refine ⟨_, dag_order .loose d.tasks (by omega) (fun t ht => by have := (hrg t ht).2; omega) (fun t ht => (hrg t ht).1), ?_⟩
    simp (maxSteps := 1000000) (disch := omega) only [rg, opX, opI, look, nth, setN, outO, binO, intO, strO, argsE, appd, cpyO, slcO, slsO, bndO, lo1, mnxO, bldO, bldV, splice, rd, fpS, lk, isNil, Nat.reduceBEq, Nat.reduceEqDiff, Nat.reduceAdd, Int.reduceEq, Int.reduceLT, Int.reduceLE, Int.reduceToNat, reduceIte, reduceCtorEq, Nat.reduceLeDiff, Nat.reduceLT, Nat.reduceMul, Nat.reduceSub, vI_len]
    refine ⟨fun h => ?_, fun h => ?_⟩
    · (refine fin_x rfl ?_ ?_ <;> simp [pack, lo, loL, V.closed, closedL, mv_closed, dagRightS, c0, c1, c2, c3, ha, show (orderF d.tasks).length < d.tasks.length by omega])
    · (refine fin_x rfl ?_ ?_ <;> simp [pack, lo, loL, V.closed, closedL, mv_closed, dagRightS, c0, c1, c2, c3, ha, show ¬ (orderF d.tasks).length < d.tasks.length by omega])

end Go.Proofs.Ytjlpmndipceboaa.Ev
end
section
set_option linter.unusedSimpArgs false
set_option linter.unusedVariables false
set_option maxRecDepth 10000
namespace Go.Proofs.Ytjlpmndipceboaa.Ev
open Go

def needsOf (ts : List Task) (k : Nat) : List Int := match ts[k]? with | some t => t.needs | none => []
theorem needsOf_get {ts : List Task} {k : Nat} (h : k < ts.length) : needsOf ts k = ts[k].needs := by simp [needsOf, h]
def markS (l : List Int) (o : List Bool) : List Bool := l.foldl (fun w x => w.set x.toNat true) o
theorem markS_len : ∀ (l : List Int) (o : List Bool), (markS l o).length = o.length
  | [], _ => rfl
  | x :: l, o => by show (markS l (o.set x.toNat true)).length = _; rw [markS_len l]; simp
theorem markS_take {l : List Int} {i : Nat} (h : i < l.length) (o : List Bool) : markS (l.take (i + 1)) o = (markS (l.take i) o).set l[i].toNat true := by
  rw [List.take_succ_eq_append_getElem h, markS, List.foldl_append]; rfl
def roundS (ts : List Task) : Nat → List Bool → List Bool
  | 0, o => o
  | k + 1, o => if (roundS ts k o).getD k false = true then markS (needsOf ts k) (roundS ts k o) else roundS ts k o
theorem roundS_len (ts : List Task) : ∀ (k : Nat) (o : List Bool), (roundS ts k o).length = o.length
  | 0, _ => rfl
  | k + 1, o => by
    rw [roundS]; split
    · rw [markS_len, roundS_len ts k]
    · exact roundS_len ts k o
def reachK (ts : List Task) (f : Nat) : Nat → List Bool
  | 0 => markS (needsOf ts f) (List.replicate ts.length false)
  | k + 1 => roundS ts ts.length (reachK ts f k)
theorem reachK_len (ts : List Task) (f : Nat) : ∀ k, (reachK ts f k).length = ts.length
  | 0 => by simp [reachK, markS_len]
  | k + 1 => by rw [reachK, roundS_len, reachK_len ts f k]

theorem ref_reach (d : Dag) (f : Nat) (hf : f < d.tasks.length) (hl : d.tasks.length ≤ 10) (hnl : ∀ t ∈ d.tasks, t.needs.length ≤ 1000000) (hin : inR d.tasks d.tasks.length) :
    PCall Try.prog 58 [dagV d, .int .i64 f] (.fsl .loose 1 (vB (reachK d.tasks f d.tasks.length))) := by
  refine en58 (by simp) (by simp [closedL, V.closed, dagV_closed]) ?_
  have hnf : ∀ x ∈ d.tasks[f].needs, 0 ≤ x ∧ x < d.tasks.length := hin _ (List.getElem_mem hf)
  have hnfl := hnl _ (List.getElem_mem hf)
  have hrep : List.replicate d.tasks.length (V.bool false) = vB (List.replicate d.tasks.length false) := by simp [vB, mv]
  simp (maxSteps := 1000000) (disch := omega) only [rg, opX, opI, look, nth, setN, outO, binO, intO, strO, argsE, appd, cpyO, slcO, slsO, bndO, lo1, mnxO, bldO, bldV, splice, rd, fpS, lk, isNil, Nat.reduceBEq, Nat.reduceEqDiff, Nat.reduceAdd, Int.reduceEq, Int.reduceLT, Int.reduceLE, Int.reduceToNat, reduceIte, reduceCtorEq, Nat.reduceLeDiff, Nat.reduceLT, Nat.reduceMul, Nat.reduceSub, c58, dagV, tasksV, taskV, vI_len, hrep]
  refine ⟨⟨by omega, by omega⟩, ?_⟩
  refine x_it d.tasks[f].needs.length (fun i σ H => H.n = 2 ∧ H.m 0 = some (.arr 2 [dagV d]) ∧ H.m 1 = some (.arr 1 (vB (markS (d.tasks[f].needs.take i) (List.replicate d.tasks.length false)))) ∧ σ = [(2, .ptr 0 0 0), (5, .sl 1 0 d.tasks.length), (22, .fsl .loose 1 (vI d.tasks[f].needs)), (23, .int .i64 d.tasks[f].needs.length), (24, .int .i64 i)]) ⟨rfl, by simp [upd, dagV, tasksV], by simp [upd, markS], rfl⟩ ?_
  rintro T i σ ⟨q, m⟩ hi ⟨rfl, e0, e1, rfl⟩ hN hX hR
  simp only at e0 e1
  simp (maxSteps := 1000000) (disch := omega) only [rg, opX, opI, look, nth, setN, outO, binO, intO, strO, argsE, appd, cpyO, slcO, slsO, bndO, lo1, mnxO, bldO, bldV, splice, rd, fpS, lk, isNil, Nat.reduceBEq, Nat.reduceEqDiff, Nat.reduceAdd, Int.reduceEq, Int.reduceLT, Int.reduceLE, Int.reduceToNat, reduceIte, reduceCtorEq, Nat.reduceLeDiff, Nat.reduceLT, Nat.reduceMul, Nat.reduceSub]
  refine ⟨fun h => ?_, fun h => ?_⟩
  · have i1 : i < d.tasks[f].needs.length := by omega
    have hx := hnf _ (List.getElem_mem i1)
    have hlt : d.tasks[f].needs[i].toNat < (markS (d.tasks[f].needs.take i) (List.replicate d.tasks.length false)).length := by rw [markS_len]; simp; omega
    simp (maxSteps := 1000000) (disch := omega) only [rg, opX, opI, look, nth, setN, outO, binO, intO, strO, argsE, appd, cpyO, slcO, slsO, bndO, lo1, mnxO, bldO, bldV, splice, rd, fpS, lk, isNil, Nat.reduceBEq, Nat.reduceEqDiff, Nat.reduceAdd, Int.reduceEq, Int.reduceLT, Int.reduceLE, Int.reduceToNat, reduceIte, reduceCtorEq, Nat.reduceLeDiff, Nat.reduceLT, Nat.reduceMul, Nat.reduceSub, vI_get, e1, vB_get hlt]
    refine ⟨by omega, hN _ _ i1 ⟨rfl, (by simp (disch := omega) only [upd_eq, upd_ne, wo_0, wo_1, wo_2, e0]), ?_, rfl⟩⟩
    rw [markS_take i1]; simp only [upd_eq, vB, mv_set]
  · obtain rfl : i = d.tasks[f].needs.length := by omega
    rw [List.take_length, ← needsOf_get hf] at e1
    refine hX _ _ _ ?_
    simp (maxSteps := 1000000) (disch := omega) only [rg, opX, opI, look, nth, setN, outO, binO, intO, strO, argsE, appd, cpyO, slcO, slsO, bndO, lo1, mnxO, bldO, bldV, splice, rd, fpS, lk, isNil, Nat.reduceBEq, Nat.reduceEqDiff, Nat.reduceAdd, Int.reduceEq, Int.reduceLT, Int.reduceLE, Int.reduceToNat, reduceIte, reduceCtorEq, Nat.reduceLeDiff, Nat.reduceLT, Nat.reduceMul, Nat.reduceSub]
    refine x_frz0 ?_
    simp (maxSteps := 1000000) (disch := omega) only [rg, opX, opI, look, nth, setN, outO, binO, intO, strO, argsE, appd, cpyO, slcO, slsO, bndO, lo1, mnxO, bldO, bldV, splice, rd, fpS, lk, isNil, Nat.reduceBEq, Nat.reduceEqDiff, Nat.reduceAdd, Int.reduceEq, Int.reduceLT, Int.reduceLE, Int.reduceToNat, reduceIte, reduceCtorEq, Nat.reduceLeDiff, Nat.reduceLT, Nat.reduceMul, Nat.reduceSub]
    refine x_it d.tasks.length (fun k σ H => 2 ≤ H.n ∧ H.m 0 = some (.arr 2 [dagV d]) ∧ H.m 1 = some (.arr 1 (vB (reachK d.tasks f k))) ∧ σ = [(2, .ptr 0 0 0), (5, .sl 1 0 d.tasks.length), (8, .int .i64 k)]) ⟨Nat.le_refl 2, e0, e1, rfl⟩ ?_
    clear hN hX hR
    rintro T2 k σ ⟨q, m2⟩ hk ⟨hq, f0, f1, rfl⟩ hN2 hX2 hR2
    simp only at hq f0 f1
    have f0' := f0
    unfold dagV tasksV at f0
    simp (maxSteps := 1000000) (disch := omega) only [rg, opX, opI, look, nth, setN, outO, binO, intO, strO, argsE, appd, cpyO, slcO, slsO, bndO, lo1, mnxO, bldO, bldV, splice, rd, fpS, lk, isNil, Nat.reduceBEq, Nat.reduceEqDiff, Nat.reduceAdd, Int.reduceEq, Int.reduceLT, Int.reduceLE, Int.reduceToNat, reduceIte, reduceCtorEq, Nat.reduceLeDiff, Nat.reduceLT, Nat.reduceMul, Nat.reduceSub, f0]
    refine ⟨fun h => ?_, fun h => ?_⟩
    · have k1 : k < d.tasks.length := by omega
      refine x_it d.tasks.length (fun j σ H => 2 ≤ H.n ∧ H.m 0 = some (.arr 2 [dagV d]) ∧ H.m 1 = some (.arr 1 (vB (roundS d.tasks j (reachK d.tasks f k)))) ∧ σ = [(2, .ptr 0 0 0), (5, .sl 1 0 d.tasks.length), (8, .int .i64 k), (40, tasksV d.tasks), (41, .int .i64 d.tasks.length), (42, .int .i64 j)]) ⟨hq, f0', f1, rfl⟩ ?_
      rintro T3 j σ ⟨q3, m3⟩ hj ⟨hq3, p0, p1, rfl⟩ hN3 hX3 hR3
      simp only at hq3 p0 p1
      simp (maxSteps := 1000000) (disch := omega) only [rg, opX, opI, look, nth, setN, outO, binO, intO, strO, argsE, appd, cpyO, slcO, slsO, bndO, lo1, mnxO, bldO, bldV, splice, rd, fpS, lk, isNil, Nat.reduceBEq, Nat.reduceEqDiff, Nat.reduceAdd, Int.reduceEq, Int.reduceLT, Int.reduceLE, Int.reduceToNat, reduceIte, reduceCtorEq, Nat.reduceLeDiff, Nat.reduceLT, Nat.reduceMul, Nat.reduceSub, tasksV]
      refine ⟨fun h => ?_, fun h => ?_⟩
      · have j1 : j < d.tasks.length := by omega
        have hlr : j < (roundS d.tasks j (reachK d.tasks f k)).length := by rw [roundS_len, reachK_len]; omega
        have hgD : (roundS d.tasks j (reachK d.tasks f k)).getD j false = (roundS d.tasks j (reachK d.tasks f k))[j] := by simp [List.getD, hlr]
        have hq0 : 0 ≠ q3 := by omega
        have hq1 : 1 ≠ q3 := by omega
        simp (maxSteps := 1000000) (disch := omega) only [rg, opX, opI, look, nth, setN, outO, binO, intO, strO, argsE, appd, cpyO, slcO, slsO, bndO, lo1, mnxO, bldO, bldV, splice, rd, fpS, lk, isNil, Nat.reduceBEq, Nat.reduceEqDiff, Nat.reduceAdd, Int.reduceEq, Int.reduceLT, Int.reduceLE, Int.reduceToNat, reduceIte, reduceCtorEq, Nat.reduceLeDiff, Nat.reduceLT, Nat.reduceMul, Nat.reduceSub, taskV, upd_ne hq1, p1, vB_get hlr]
        cases hb : (roundS d.tasks j (reachK d.tasks f k))[j] with
        | false =>
          simp (maxSteps := 1000000) (disch := omega) only [rg, opX, opI, look, nth, setN, outO, binO, intO, strO, argsE, appd, cpyO, slcO, slsO, bndO, lo1, mnxO, bldO, bldV, splice, rd, fpS, lk, isNil, Nat.reduceBEq, Nat.reduceEqDiff, Nat.reduceAdd, Int.reduceEq, Int.reduceLT, Int.reduceLE, Int.reduceToNat, reduceIte, reduceCtorEq, Nat.reduceLeDiff, Nat.reduceLT, Nat.reduceMul, Nat.reduceSub, hb]
          refine ⟨h, x_frz0 ?_⟩
          simp (maxSteps := 1000000) (disch := omega) only [rg, opX, opI, look, nth, setN, outO, binO, intO, strO, argsE, appd, cpyO, slcO, slsO, bndO, lo1, mnxO, bldO, bldV, splice, rd, fpS, lk, isNil, Nat.reduceBEq, Nat.reduceEqDiff, Nat.reduceAdd, Int.reduceEq, Int.reduceLT, Int.reduceLE, Int.reduceToNat, reduceIte, reduceCtorEq, Nat.reduceLeDiff, Nat.reduceLT, Nat.reduceMul, Nat.reduceSub]
          refine hN3 _ _ j1 ?_
          refine ⟨by show 2 ≤ q3 + 1; omega, (by simp (disch := omega) only [upd_eq, upd_ne, wo_0, wo_1, wo_2, p0]), ?_, rfl⟩
          rw [roundS, hgD, hb, if_neg (by simp)]
          exact (by simp (disch := omega) only [upd_eq, upd_ne, wo_0, wo_1, wo_2, p1])
        | true =>
          simp (maxSteps := 1000000) (disch := omega) only [rg, opX, opI, look, nth, setN, outO, binO, intO, strO, argsE, appd, cpyO, slcO, slsO, bndO, lo1, mnxO, bldO, bldV, splice, rd, fpS, lk, isNil, Nat.reduceBEq, Nat.reduceEqDiff, Nat.reduceAdd, Int.reduceEq, Int.reduceLT, Int.reduceLE, Int.reduceToNat, reduceIte, reduceCtorEq, Nat.reduceLeDiff, Nat.reduceLT, Nat.reduceMul, Nat.reduceSub, hb, vI_len]
          have hx0 := hin _ (List.getElem_mem j1)
          have hx1 := hnl _ (List.getElem_mem j1)
          refine ⟨by omega, ?_⟩
          refine x_it d.tasks[j].needs.length (fun i σ H => 2 ≤ H.n ∧ H.m 0 = some (.arr 2 [dagV d]) ∧ H.m 1 = some (.arr 1 (vB (markS (d.tasks[j].needs.take i) (roundS d.tasks j (reachK d.tasks f k))))) ∧ σ = [(2, .ptr 0 0 0), (5, .sl 1 0 d.tasks.length), (8, .int .i64 k), (40, tasksV d.tasks), (41, .int .i64 d.tasks.length), (42, .int .i64 j), (52, .fsl .loose 1 (vI d.tasks[j].needs)), (53, .int .i64 d.tasks[j].needs.length), (54, .int .i64 i)]) ⟨by show 2 ≤ q3 + 1; omega, (by simp (disch := omega) only [upd_eq, upd_ne, wo_0, wo_1, wo_2, p0]), ?_, rfl⟩ ?_
          · simp only [List.take_zero, markS, List.foldl_nil]; exact (by simp (disch := omega) only [upd_eq, upd_ne, wo_0, wo_1, wo_2, p1])
          rintro T4 i σ ⟨q4, m4⟩ hi4 ⟨hq4, r0, r1, rfl⟩ hN4 hX4 hR4
          simp only at hq4 r0 r1
          simp (maxSteps := 1000000) (disch := omega) only [rg, opX, opI, look, nth, setN, outO, binO, intO, strO, argsE, appd, cpyO, slcO, slsO, bndO, lo1, mnxO, bldO, bldV, splice, rd, fpS, lk, isNil, Nat.reduceBEq, Nat.reduceEqDiff, Nat.reduceAdd, Int.reduceEq, Int.reduceLT, Int.reduceLE, Int.reduceToNat, reduceIte, reduceCtorEq, Nat.reduceLeDiff, Nat.reduceLT, Nat.reduceMul, Nat.reduceSub]
          refine ⟨fun h => ?_, fun h => ?_⟩
          · have i1 : i < d.tasks[j].needs.length := by omega
            have hx := hx0 _ (List.getElem_mem i1)
            have hlt : d.tasks[j].needs[i].toNat < (markS (d.tasks[j].needs.take i) (roundS d.tasks j (reachK d.tasks f k))).length := by rw [markS_len, roundS_len, reachK_len]; omega
            simp (maxSteps := 1000000) (disch := omega) only [rg, opX, opI, look, nth, setN, outO, binO, intO, strO, argsE, appd, cpyO, slcO, slsO, bndO, lo1, mnxO, bldO, bldV, splice, rd, fpS, lk, isNil, Nat.reduceBEq, Nat.reduceEqDiff, Nat.reduceAdd, Int.reduceEq, Int.reduceLT, Int.reduceLE, Int.reduceToNat, reduceIte, reduceCtorEq, Nat.reduceLeDiff, Nat.reduceLT, Nat.reduceMul, Nat.reduceSub, vI_get, r1, vB_get hlt]
            refine ⟨by omega, hN4 _ _ i1 ?_⟩
            refine ⟨hq4, (by simp (disch := omega) only [upd_eq, upd_ne, wo_0, wo_1, wo_2, r0]), ?_, rfl⟩
            rw [markS_take i1]; simp only [upd_eq, vB, mv_set]
          · obtain rfl : i = d.tasks[j].needs.length := by omega
            rw [List.take_length, ← needsOf_get j1] at r1
            refine hX4 _ _ _ ?_
            simp (maxSteps := 1000000) (disch := omega) only [rg, opX, opI, look, nth, setN, outO, binO, intO, strO, argsE, appd, cpyO, slcO, slsO, bndO, lo1, mnxO, bldO, bldV, splice, rd, fpS, lk, isNil, Nat.reduceBEq, Nat.reduceEqDiff, Nat.reduceAdd, Int.reduceEq, Int.reduceLT, Int.reduceLE, Int.reduceToNat, reduceIte, reduceCtorEq, Nat.reduceLeDiff, Nat.reduceLT, Nat.reduceMul, Nat.reduceSub]
            refine x_frz0 ?_
            simp (maxSteps := 1000000) (disch := omega) only [rg, opX, opI, look, nth, setN, outO, binO, intO, strO, argsE, appd, cpyO, slcO, slsO, bndO, lo1, mnxO, bldO, bldV, splice, rd, fpS, lk, isNil, Nat.reduceBEq, Nat.reduceEqDiff, Nat.reduceAdd, Int.reduceEq, Int.reduceLT, Int.reduceLE, Int.reduceToNat, reduceIte, reduceCtorEq, Nat.reduceLeDiff, Nat.reduceLT, Nat.reduceMul, Nat.reduceSub]
            refine hN3 _ _ j1 ?_
            refine ⟨hq4, r0, ?_, rfl⟩
            rw [roundS, hgD, hb, if_pos rfl]
            exact r1
      · obtain rfl : j = d.tasks.length := by omega
        refine hX3 _ _ _ ?_
        simp (maxSteps := 1000000) (disch := omega) only [rg, opX, opI, look, nth, setN, outO, binO, intO, strO, argsE, appd, cpyO, slcO, slsO, bndO, lo1, mnxO, bldO, bldV, splice, rd, fpS, lk, isNil, Nat.reduceBEq, Nat.reduceEqDiff, Nat.reduceAdd, Int.reduceEq, Int.reduceLT, Int.reduceLE, Int.reduceToNat, reduceIte, reduceCtorEq, Nat.reduceLeDiff, Nat.reduceLT, Nat.reduceMul, Nat.reduceSub]
        refine x_frz0 ?_
        simp (maxSteps := 1000000) (disch := omega) only [rg, opX, opI, look, nth, setN, outO, binO, intO, strO, argsE, appd, cpyO, slcO, slsO, bndO, lo1, mnxO, bldO, bldV, splice, rd, fpS, lk, isNil, Nat.reduceBEq, Nat.reduceEqDiff, Nat.reduceAdd, Int.reduceEq, Int.reduceLT, Int.reduceLE, Int.reduceToNat, reduceIte, reduceCtorEq, Nat.reduceLeDiff, Nat.reduceLT, Nat.reduceMul, Nat.reduceSub]
        exact hN2 _ _ k1 ⟨hq3, p0, p1, rfl⟩
    · obtain rfl : k = d.tasks.length := by omega
      refine hX2 _ _ _ ?_
      simp (maxSteps := 1000000) (disch := omega) only [rg, opX, opI, look, nth, setN, outO, binO, intO, strO, argsE, appd, cpyO, slcO, slsO, bndO, lo1, mnxO, bldO, bldV, splice, rd, fpS, lk, isNil, Nat.reduceBEq, Nat.reduceEqDiff, Nat.reduceAdd, Int.reduceEq, Int.reduceLT, Int.reduceLE, Int.reduceToNat, reduceIte, reduceCtorEq, Nat.reduceLeDiff, Nat.reduceLT, Nat.reduceMul, Nat.reduceSub]
      refine x_frz [1] ?_; simp only [vr, frz_p]; rw [frz_row (id := 1) (sz := 1) (l := vB (reachK d.tasks f d.tasks.length)) (by first | assumption | (simp [upd]; done) | (simp [upd, *]; done)) (by simp) (by first | rfl | (simp [mv_len, vB_closed, vB_len, reachK_len] <;> omega)) (by simp [mv_closed, V.closed, vB_closed, vB_len, reachK_len])]
      simp (maxSteps := 1000000) (disch := omega) only [rg, opX, opI, look, nth, setN, outO, binO, intO, strO, argsE, appd, cpyO, slcO, slsO, bndO, lo1, mnxO, bldO, bldV, splice, rd, fpS, lk, isNil, Nat.reduceBEq, Nat.reduceEqDiff, Nat.reduceAdd, Int.reduceEq, Int.reduceLT, Int.reduceLE, Int.reduceToNat, reduceIte, reduceCtorEq, Nat.reduceLeDiff, Nat.reduceLT, Nat.reduceMul, Nat.reduceSub]
      (refine fin_x rfl ?_ ?_ <;> simp [pack, lo, loL, V.closed, closedL, mv_closed, vB_lo, vB_closed])

end Go.Proofs.Ytjlpmndipceboaa.Ev
end
section
set_option linter.unusedSimpArgs false
set_option linter.unusedVariables false
set_option maxRecDepth 10000
namespace Go.Proofs.Ytjlpmndipceboaa.Ev
open Go

def shapedS (d : Dag) : Bool := !(decide (d.tasks.length < 1 ∨ d.name.length < 1 ∨ 16 < d.name.length)) && d.tasks.all fun t => taskOkS t d.tasks.length

theorem ref_shaped (d : Dag) (hd : ∀ t ∈ d.tasks, t.needs.length ≤ 4611686018427387904) (hn : d.tasks.length ≤ 4611686018427387904) : PCall Try.prog 57 [dagV d] (.bool (shapedS d)) := by
  refine en57 (by simp) (by simp [closedL, V.closed, dagV_closed]) ?_
  simp (maxSteps := 1000000) (disch := omega) only [rg, opX, opI, look, nth, setN, outO, binO, intO, strO, argsE, appd, cpyO, slcO, slsO, bndO, lo1, mnxO, bldO, bldV, splice, rd, fpS, lk, isNil, Nat.reduceBEq, Nat.reduceEqDiff, Nat.reduceAdd, Int.reduceEq, Int.reduceLT, Int.reduceLE, Int.reduceToNat, reduceIte, reduceCtorEq, Nat.reduceLeDiff, Nat.reduceLT, Nat.reduceMul, Nat.reduceSub, c57, dagV, tasksV]
  by_cases c1 : d.tasks.length < 1
  · simp (maxSteps := 1000000) (disch := omega) only [rg, opX, opI, look, nth, setN, outO, binO, intO, strO, argsE, appd, cpyO, slcO, slsO, bndO, lo1, mnxO, bldO, bldV, splice, rd, fpS, lk, isNil, Nat.reduceBEq, Nat.reduceEqDiff, Nat.reduceAdd, Int.reduceEq, Int.reduceLT, Int.reduceLE, Int.reduceToNat, reduceIte, reduceCtorEq, Nat.reduceLeDiff, Nat.reduceLT, Nat.reduceMul, Nat.reduceSub, show (d.tasks.length : Int) < 1 by omega]
    (refine fin_x rfl ?_ ?_ <;> simp [pack, lo, loL, V.closed, closedL, mv_closed, shapedS, c1])
  by_cases c2 : d.name.length < 1
  · simp (maxSteps := 1000000) (disch := omega) only [rg, opX, opI, look, nth, setN, outO, binO, intO, strO, argsE, appd, cpyO, slcO, slsO, bndO, lo1, mnxO, bldO, bldV, splice, rd, fpS, lk, isNil, Nat.reduceBEq, Nat.reduceEqDiff, Nat.reduceAdd, Int.reduceEq, Int.reduceLT, Int.reduceLE, Int.reduceToNat, reduceIte, reduceCtorEq, Nat.reduceLeDiff, Nat.reduceLT, Nat.reduceMul, Nat.reduceSub, show ¬ (d.tasks.length : Int) < 1 by omega, show (d.name.length : Int) < 1 by omega]
    (refine fin_x rfl ?_ ?_ <;> simp [pack, lo, loL, V.closed, closedL, mv_closed, shapedS, c2])
  by_cases c3 : 16 < d.name.length
  · simp (maxSteps := 1000000) (disch := omega) only [rg, opX, opI, look, nth, setN, outO, binO, intO, strO, argsE, appd, cpyO, slcO, slsO, bndO, lo1, mnxO, bldO, bldV, splice, rd, fpS, lk, isNil, Nat.reduceBEq, Nat.reduceEqDiff, Nat.reduceAdd, Int.reduceEq, Int.reduceLT, Int.reduceLE, Int.reduceToNat, reduceIte, reduceCtorEq, Nat.reduceLeDiff, Nat.reduceLT, Nat.reduceMul, Nat.reduceSub, show ¬ (d.tasks.length : Int) < 1 by omega, show ¬ (d.name.length : Int) < 1 by omega, show (16 : Int) < d.name.length by omega]
    (refine fin_x rfl ?_ ?_ <;> simp [pack, lo, loL, V.closed, closedL, mv_closed, shapedS, c3])
  simp (maxSteps := 1000000) (disch := omega) only [rg, opX, opI, look, nth, setN, outO, binO, intO, strO, argsE, appd, cpyO, slcO, slsO, bndO, lo1, mnxO, bldO, bldV, splice, rd, fpS, lk, isNil, Nat.reduceBEq, Nat.reduceEqDiff, Nat.reduceAdd, Int.reduceEq, Int.reduceLT, Int.reduceLE, Int.reduceToNat, reduceIte, reduceCtorEq, Nat.reduceLeDiff, Nat.reduceLT, Nat.reduceMul, Nat.reduceSub, show ¬ (d.tasks.length : Int) < 1 by omega, show ¬ (d.name.length : Int) < 1 by omega, show ¬ (16 : Int) < d.name.length by omega]
  have hS : shapedS d = d.tasks.all fun t => taskOkS t d.tasks.length := by simp [shapedS, c1, c2, c3]
  refine x_it d.tasks.length (fun i σ H => 1 ≤ H.n ∧ (d.tasks.all fun t => taskOkS t d.tasks.length) = ((d.tasks.drop i).all fun t => taskOkS t d.tasks.length) ∧ σ = [(3, .int .i64 d.tasks.length), (26, tasksV d.tasks), (27, .int .i64 d.tasks.length), (28, .int .i64 i)]) ⟨Nat.le_refl 1, by simp, rfl⟩ ?_
  rintro T i σ ⟨q, m⟩ hi ⟨hq, hr, rfl⟩ hN hX hR
  simp only at hq
  simp (maxSteps := 1000000) (disch := omega) only [rg, opX, opI, look, nth, setN, outO, binO, intO, strO, argsE, appd, cpyO, slcO, slsO, bndO, lo1, mnxO, bldO, bldV, splice, rd, fpS, lk, isNil, Nat.reduceBEq, Nat.reduceEqDiff, Nat.reduceAdd, Int.reduceEq, Int.reduceLT, Int.reduceLE, Int.reduceToNat, reduceIte, reduceCtorEq, Nat.reduceLeDiff, Nat.reduceLT, Nat.reduceMul, Nat.reduceSub, tasksV]
  refine ⟨fun h => ?_, fun h => ?_⟩
  · have i1 : i < d.tasks.length := by omega
    have hl1 := hd _ (List.getElem_mem i1)
    rw [List.drop_eq_getElem_cons i1, List.all_cons] at hr
    simp (maxSteps := 1000000) (disch := omega) only [rg, opX, opI, look, nth, setN, outO, binO, intO, strO, argsE, appd, cpyO, slcO, slsO, bndO, lo1, mnxO, bldO, bldV, splice, rd, fpS, lk, isNil, Nat.reduceBEq, Nat.reduceEqDiff, Nat.reduceAdd, Int.reduceEq, Int.reduceLT, Int.reduceLE, Int.reduceToNat, reduceIte, reduceCtorEq, Nat.reduceLeDiff, Nat.reduceLT, Nat.reduceMul, Nat.reduceSub, taskV, vI_len]
    refine x_it d.tasks[i].needs.length (fun j σ H => 1 ≤ H.n ∧ H.m q = some (.arr 4 [.agg [.fsl .loose 1 (vI d.tasks[i].needs), .int .i64 d.tasks[i].tries, .int .i64 d.tasks[i].wait, .int .i64 d.tasks[i].lease]]) ∧ (∃ last, riseS (-1) d.tasks[i].needs d.tasks.length = riseS last (d.tasks[i].needs.drop j) d.tasks.length ∧ ((j = 0 ∧ last = -1) ∨ (0 < j ∧ d.tasks[i].needs[j - 1]? = some last ∧ 0 ≤ last))) ∧ σ = [(3, .int .i64 d.tasks.length), (5, .ptr q 0 0), (26, tasksV d.tasks), (27, .int .i64 d.tasks.length), (28, .int .i64 i), (33, .fsl .loose 1 (vI d.tasks[i].needs)), (34, .int .i64 d.tasks[i].needs.length), (35, .int .i64 j)]) ⟨by show 1 ≤ q + 1; omega, (by simp (disch := omega) only [upd_eq, upd_ne, wo_0, wo_1, wo_2]), ⟨-1, by simp, .inl ⟨rfl, rfl⟩⟩, rfl⟩ ?_
    rintro T2 j σ ⟨q2, m2⟩ hj ⟨hq2, e0, ⟨last, hs, hla⟩, rfl⟩ hN2 hX2 hR2
    simp only at hq2 e0
    simp (maxSteps := 1000000) (disch := omega) only [rg, opX, opI, look, nth, setN, outO, binO, intO, strO, argsE, appd, cpyO, slcO, slsO, bndO, lo1, mnxO, bldO, bldV, splice, rd, fpS, lk, isNil, Nat.reduceBEq, Nat.reduceEqDiff, Nat.reduceAdd, Int.reduceEq, Int.reduceLT, Int.reduceLE, Int.reduceToNat, reduceIte, reduceCtorEq, Nat.reduceLeDiff, Nat.reduceLT, Nat.reduceMul, Nat.reduceSub]
    refine ⟨fun h => ?_, fun h => ?_⟩
    · have j1 : j < d.tasks[i].needs.length := by omega
      rw [List.drop_eq_getElem_cons j1, riseS] at hs
      simp (maxSteps := 1000000) (disch := omega) only [rg, opX, opI, look, nth, setN, outO, binO, intO, strO, argsE, appd, cpyO, slcO, slsO, bndO, lo1, mnxO, bldO, bldV, splice, rd, fpS, lk, isNil, Nat.reduceBEq, Nat.reduceEqDiff, Nat.reduceAdd, Int.reduceEq, Int.reduceLT, Int.reduceLE, Int.reduceToNat, reduceIte, reduceCtorEq, Nat.reduceLeDiff, Nat.reduceLT, Nat.reduceMul, Nat.reduceSub, vI_get]
      by_cases d1 : d.tasks[i].needs[j] < 0
      · simp (maxSteps := 1000000) (disch := omega) only [rg, opX, opI, look, nth, setN, outO, binO, intO, strO, argsE, appd, cpyO, slcO, slsO, bndO, lo1, mnxO, bldO, bldV, splice, rd, fpS, lk, isNil, Nat.reduceBEq, Nat.reduceEqDiff, Nat.reduceAdd, Int.reduceEq, Int.reduceLT, Int.reduceLE, Int.reduceToNat, reduceIte, reduceCtorEq, Nat.reduceLeDiff, Nat.reduceLT, Nat.reduceMul, Nat.reduceSub, d1]
        refine hR2 _ _ ?_
        simp (maxSteps := 1000000) (disch := omega) only [rg, opX, opI, look, nth, setN, outO, binO, intO, strO, argsE, appd, cpyO, slcO, slsO, bndO, lo1, mnxO, bldO, bldV, splice, rd, fpS, lk, isNil, Nat.reduceBEq, Nat.reduceEqDiff, Nat.reduceAdd, Int.reduceEq, Int.reduceLT, Int.reduceLE, Int.reduceToNat, reduceIte, reduceCtorEq, Nat.reduceLeDiff, Nat.reduceLT, Nat.reduceMul, Nat.reduceSub]
        refine hR _ _ ?_
        simp (maxSteps := 1000000) (disch := omega) only [rg, opX, opI, look, nth, setN, outO, binO, intO, strO, argsE, appd, cpyO, slcO, slsO, bndO, lo1, mnxO, bldO, bldV, splice, rd, fpS, lk, isNil, Nat.reduceBEq, Nat.reduceEqDiff, Nat.reduceAdd, Int.reduceEq, Int.reduceLT, Int.reduceLE, Int.reduceToNat, reduceIte, reduceCtorEq, Nat.reduceLeDiff, Nat.reduceLT, Nat.reduceMul, Nat.reduceSub]
        have : d.tasks[i].needs[j] ≤ last := by rcases hla with ⟨_, h⟩ | ⟨_, _, h⟩ <;> omega
        have hf : shapedS d = false := by rw [hS, hr, taskOkS, hs]; simp [this]
        (refine fin_x rfl ?_ ?_ <;> simp [pack, lo, loL, V.closed, closedL, mv_closed, hf])
      by_cases d2 : (d.tasks.length : Int) ≤ d.tasks[i].needs[j]
      · simp (maxSteps := 1000000) (disch := omega) only [rg, opX, opI, look, nth, setN, outO, binO, intO, strO, argsE, appd, cpyO, slcO, slsO, bndO, lo1, mnxO, bldO, bldV, splice, rd, fpS, lk, isNil, Nat.reduceBEq, Nat.reduceEqDiff, Nat.reduceAdd, Int.reduceEq, Int.reduceLT, Int.reduceLE, Int.reduceToNat, reduceIte, reduceCtorEq, Nat.reduceLeDiff, Nat.reduceLT, Nat.reduceMul, Nat.reduceSub, d1, d2]
        refine hR2 _ _ ?_
        simp (maxSteps := 1000000) (disch := omega) only [rg, opX, opI, look, nth, setN, outO, binO, intO, strO, argsE, appd, cpyO, slcO, slsO, bndO, lo1, mnxO, bldO, bldV, splice, rd, fpS, lk, isNil, Nat.reduceBEq, Nat.reduceEqDiff, Nat.reduceAdd, Int.reduceEq, Int.reduceLT, Int.reduceLE, Int.reduceToNat, reduceIte, reduceCtorEq, Nat.reduceLeDiff, Nat.reduceLT, Nat.reduceMul, Nat.reduceSub]
        refine hR _ _ ?_
        simp (maxSteps := 1000000) (disch := omega) only [rg, opX, opI, look, nth, setN, outO, binO, intO, strO, argsE, appd, cpyO, slcO, slsO, bndO, lo1, mnxO, bldO, bldV, splice, rd, fpS, lk, isNil, Nat.reduceBEq, Nat.reduceEqDiff, Nat.reduceAdd, Int.reduceEq, Int.reduceLT, Int.reduceLE, Int.reduceToNat, reduceIte, reduceCtorEq, Nat.reduceLeDiff, Nat.reduceLT, Nat.reduceMul, Nat.reduceSub]
        have hf : shapedS d = false := by rw [hS, hr, taskOkS, hs]; simp [d2]
        (refine fin_x rfl ?_ ?_ <;> simp [pack, lo, loL, V.closed, closedL, mv_closed, hf])
      rcases hla with ⟨rfl, rfl⟩ | ⟨h1, h2, h3⟩
      · simp (maxSteps := 1000000) (disch := omega) only [rg, opX, opI, look, nth, setN, outO, binO, intO, strO, argsE, appd, cpyO, slcO, slsO, bndO, lo1, mnxO, bldO, bldV, splice, rd, fpS, lk, isNil, Nat.reduceBEq, Nat.reduceEqDiff, Nat.reduceAdd, Int.reduceEq, Int.reduceLT, Int.reduceLE, Int.reduceToNat, reduceIte, reduceCtorEq, Nat.reduceLeDiff, Nat.reduceLT, Nat.reduceMul, Nat.reduceSub, d1, d2, show ¬ (0 : Int) < ((0 : Nat) : Int) by omega]
        refine hN2 _ _ j1 ?_
        refine ⟨hq2, e0, ⟨d.tasks[i].needs[0], by rw [hs]; simp [d2]; omega, .inr ⟨by omega, by simp, by omega⟩⟩, rfl⟩
      · have hp : (0 : Int) < j := by omega
        have hg : (vI d.tasks[i].needs)[j - 1]? = some (.int .i64 last) := by simp [vI, mv, h2]
        have ht : ((j : Int) - 1).toNat = j - 1 := by omega
        simp (maxSteps := 1000000) (disch := omega) only [rg, opX, opI, look, nth, setN, outO, binO, intO, strO, argsE, appd, cpyO, slcO, slsO, bndO, lo1, mnxO, bldO, bldV, splice, rd, fpS, lk, isNil, Nat.reduceBEq, Nat.reduceEqDiff, Nat.reduceAdd, Int.reduceEq, Int.reduceLT, Int.reduceLE, Int.reduceToNat, reduceIte, reduceCtorEq, Nat.reduceLeDiff, Nat.reduceLT, Nat.reduceMul, Nat.reduceSub, d1, d2, hp, e0, ht, hg]
        refine ⟨by omega, fun g => ?_, fun g => ?_⟩
        · refine hR2 _ _ ?_
          simp (maxSteps := 1000000) (disch := omega) only [rg, opX, opI, look, nth, setN, outO, binO, intO, strO, argsE, appd, cpyO, slcO, slsO, bndO, lo1, mnxO, bldO, bldV, splice, rd, fpS, lk, isNil, Nat.reduceBEq, Nat.reduceEqDiff, Nat.reduceAdd, Int.reduceEq, Int.reduceLT, Int.reduceLE, Int.reduceToNat, reduceIte, reduceCtorEq, Nat.reduceLeDiff, Nat.reduceLT, Nat.reduceMul, Nat.reduceSub]
          refine hR _ _ ?_
          simp (maxSteps := 1000000) (disch := omega) only [rg, opX, opI, look, nth, setN, outO, binO, intO, strO, argsE, appd, cpyO, slcO, slsO, bndO, lo1, mnxO, bldO, bldV, splice, rd, fpS, lk, isNil, Nat.reduceBEq, Nat.reduceEqDiff, Nat.reduceAdd, Int.reduceEq, Int.reduceLT, Int.reduceLE, Int.reduceToNat, reduceIte, reduceCtorEq, Nat.reduceLeDiff, Nat.reduceLT, Nat.reduceMul, Nat.reduceSub]
          have hf : shapedS d = false := by rw [hS, hr, taskOkS, hs]; simp [g]
          (refine fin_x rfl ?_ ?_ <;> simp [pack, lo, loL, V.closed, closedL, mv_closed, hf])
        · refine hN2 _ _ j1 ?_
          refine ⟨hq2, e0, ⟨d.tasks[i].needs[j], by rw [hs]; simp [d2]; omega, .inr ⟨by omega, by simp, by omega⟩⟩, rfl⟩
    · obtain rfl : j = d.tasks[i].needs.length := by omega
      rw [List.drop_length, riseS] at hs
      refine hX2 _ _ _ ?_
      simp (maxSteps := 1000000) (disch := omega) only [rg, opX, opI, look, nth, setN, outO, binO, intO, strO, argsE, appd, cpyO, slcO, slsO, bndO, lo1, mnxO, bldO, bldV, splice, rd, fpS, lk, isNil, Nat.reduceBEq, Nat.reduceEqDiff, Nat.reduceAdd, Int.reduceEq, Int.reduceLT, Int.reduceLE, Int.reduceToNat, reduceIte, reduceCtorEq, Nat.reduceLeDiff, Nat.reduceLT, Nat.reduceMul, Nat.reduceSub]
      refine x_frz0 ?_
      have hno : taskNumS d.tasks[i] = false → shapedS d = false := fun hf => by rw [hS, hr, taskOkS, hf]; simp
      by_cases g1 : d.tasks[i].tries < 1
      · simp (maxSteps := 1000000) (disch := omega) only [rg, opX, opI, look, nth, setN, outO, binO, intO, strO, argsE, appd, cpyO, slcO, slsO, bndO, lo1, mnxO, bldO, bldV, splice, rd, fpS, lk, isNil, Nat.reduceBEq, Nat.reduceEqDiff, Nat.reduceAdd, Int.reduceEq, Int.reduceLT, Int.reduceLE, Int.reduceToNat, reduceIte, reduceCtorEq, Nat.reduceLeDiff, Nat.reduceLT, Nat.reduceMul, Nat.reduceSub, e0, g1]
        refine hR _ _ ?_
        simp (maxSteps := 1000000) (disch := omega) only [rg, opX, opI, look, nth, setN, outO, binO, intO, strO, argsE, appd, cpyO, slcO, slsO, bndO, lo1, mnxO, bldO, bldV, splice, rd, fpS, lk, isNil, Nat.reduceBEq, Nat.reduceEqDiff, Nat.reduceAdd, Int.reduceEq, Int.reduceLT, Int.reduceLE, Int.reduceToNat, reduceIte, reduceCtorEq, Nat.reduceLeDiff, Nat.reduceLT, Nat.reduceMul, Nat.reduceSub]
        (refine fin_x rfl ?_ ?_ <;> simp [pack, lo, loL, V.closed, closedL, mv_closed, hno (by simp only [taskNumS, decide_eq_false_iff_not]; omega)])
      by_cases g2 : 8 < d.tasks[i].tries
      · simp (maxSteps := 1000000) (disch := omega) only [rg, opX, opI, look, nth, setN, outO, binO, intO, strO, argsE, appd, cpyO, slcO, slsO, bndO, lo1, mnxO, bldO, bldV, splice, rd, fpS, lk, isNil, Nat.reduceBEq, Nat.reduceEqDiff, Nat.reduceAdd, Int.reduceEq, Int.reduceLT, Int.reduceLE, Int.reduceToNat, reduceIte, reduceCtorEq, Nat.reduceLeDiff, Nat.reduceLT, Nat.reduceMul, Nat.reduceSub, e0, g1, g2]
        refine hR _ _ ?_
        simp (maxSteps := 1000000) (disch := omega) only [rg, opX, opI, look, nth, setN, outO, binO, intO, strO, argsE, appd, cpyO, slcO, slsO, bndO, lo1, mnxO, bldO, bldV, splice, rd, fpS, lk, isNil, Nat.reduceBEq, Nat.reduceEqDiff, Nat.reduceAdd, Int.reduceEq, Int.reduceLT, Int.reduceLE, Int.reduceToNat, reduceIte, reduceCtorEq, Nat.reduceLeDiff, Nat.reduceLT, Nat.reduceMul, Nat.reduceSub]
        (refine fin_x rfl ?_ ?_ <;> simp [pack, lo, loL, V.closed, closedL, mv_closed, hno (by simp only [taskNumS, decide_eq_false_iff_not]; omega)])
      by_cases g3 : d.tasks[i].wait < 0
      · simp (maxSteps := 1000000) (disch := omega) only [rg, opX, opI, look, nth, setN, outO, binO, intO, strO, argsE, appd, cpyO, slcO, slsO, bndO, lo1, mnxO, bldO, bldV, splice, rd, fpS, lk, isNil, Nat.reduceBEq, Nat.reduceEqDiff, Nat.reduceAdd, Int.reduceEq, Int.reduceLT, Int.reduceLE, Int.reduceToNat, reduceIte, reduceCtorEq, Nat.reduceLeDiff, Nat.reduceLT, Nat.reduceMul, Nat.reduceSub, e0, g1, g2, g3]
        refine hR _ _ ?_
        simp (maxSteps := 1000000) (disch := omega) only [rg, opX, opI, look, nth, setN, outO, binO, intO, strO, argsE, appd, cpyO, slcO, slsO, bndO, lo1, mnxO, bldO, bldV, splice, rd, fpS, lk, isNil, Nat.reduceBEq, Nat.reduceEqDiff, Nat.reduceAdd, Int.reduceEq, Int.reduceLT, Int.reduceLE, Int.reduceToNat, reduceIte, reduceCtorEq, Nat.reduceLeDiff, Nat.reduceLT, Nat.reduceMul, Nat.reduceSub]
        (refine fin_x rfl ?_ ?_ <;> simp [pack, lo, loL, V.closed, closedL, mv_closed, hno (by simp only [taskNumS, decide_eq_false_iff_not]; omega)])
      by_cases g4 : 1048576 < d.tasks[i].wait
      · simp (maxSteps := 1000000) (disch := omega) only [rg, opX, opI, look, nth, setN, outO, binO, intO, strO, argsE, appd, cpyO, slcO, slsO, bndO, lo1, mnxO, bldO, bldV, splice, rd, fpS, lk, isNil, Nat.reduceBEq, Nat.reduceEqDiff, Nat.reduceAdd, Int.reduceEq, Int.reduceLT, Int.reduceLE, Int.reduceToNat, reduceIte, reduceCtorEq, Nat.reduceLeDiff, Nat.reduceLT, Nat.reduceMul, Nat.reduceSub, e0, g1, g2, g3, g4]
        refine hR _ _ ?_
        simp (maxSteps := 1000000) (disch := omega) only [rg, opX, opI, look, nth, setN, outO, binO, intO, strO, argsE, appd, cpyO, slcO, slsO, bndO, lo1, mnxO, bldO, bldV, splice, rd, fpS, lk, isNil, Nat.reduceBEq, Nat.reduceEqDiff, Nat.reduceAdd, Int.reduceEq, Int.reduceLT, Int.reduceLE, Int.reduceToNat, reduceIte, reduceCtorEq, Nat.reduceLeDiff, Nat.reduceLT, Nat.reduceMul, Nat.reduceSub]
        (refine fin_x rfl ?_ ?_ <;> simp [pack, lo, loL, V.closed, closedL, mv_closed, hno (by simp only [taskNumS, decide_eq_false_iff_not]; omega)])
      by_cases g5 : d.tasks[i].lease < 1
      · simp (maxSteps := 1000000) (disch := omega) only [rg, opX, opI, look, nth, setN, outO, binO, intO, strO, argsE, appd, cpyO, slcO, slsO, bndO, lo1, mnxO, bldO, bldV, splice, rd, fpS, lk, isNil, Nat.reduceBEq, Nat.reduceEqDiff, Nat.reduceAdd, Int.reduceEq, Int.reduceLT, Int.reduceLE, Int.reduceToNat, reduceIte, reduceCtorEq, Nat.reduceLeDiff, Nat.reduceLT, Nat.reduceMul, Nat.reduceSub, e0, g1, g2, g3, g4, g5]
        refine hR _ _ ?_
        simp (maxSteps := 1000000) (disch := omega) only [rg, opX, opI, look, nth, setN, outO, binO, intO, strO, argsE, appd, cpyO, slcO, slsO, bndO, lo1, mnxO, bldO, bldV, splice, rd, fpS, lk, isNil, Nat.reduceBEq, Nat.reduceEqDiff, Nat.reduceAdd, Int.reduceEq, Int.reduceLT, Int.reduceLE, Int.reduceToNat, reduceIte, reduceCtorEq, Nat.reduceLeDiff, Nat.reduceLT, Nat.reduceMul, Nat.reduceSub]
        (refine fin_x rfl ?_ ?_ <;> simp [pack, lo, loL, V.closed, closedL, mv_closed, hno (by simp only [taskNumS, decide_eq_false_iff_not]; omega)])
      by_cases g6 : 1048576 < d.tasks[i].lease
      · simp (maxSteps := 1000000) (disch := omega) only [rg, opX, opI, look, nth, setN, outO, binO, intO, strO, argsE, appd, cpyO, slcO, slsO, bndO, lo1, mnxO, bldO, bldV, splice, rd, fpS, lk, isNil, Nat.reduceBEq, Nat.reduceEqDiff, Nat.reduceAdd, Int.reduceEq, Int.reduceLT, Int.reduceLE, Int.reduceToNat, reduceIte, reduceCtorEq, Nat.reduceLeDiff, Nat.reduceLT, Nat.reduceMul, Nat.reduceSub, e0, g1, g2, g3, g4, g5, g6]
        refine hR _ _ ?_
        simp (maxSteps := 1000000) (disch := omega) only [rg, opX, opI, look, nth, setN, outO, binO, intO, strO, argsE, appd, cpyO, slcO, slsO, bndO, lo1, mnxO, bldO, bldV, splice, rd, fpS, lk, isNil, Nat.reduceBEq, Nat.reduceEqDiff, Nat.reduceAdd, Int.reduceEq, Int.reduceLT, Int.reduceLE, Int.reduceToNat, reduceIte, reduceCtorEq, Nat.reduceLeDiff, Nat.reduceLT, Nat.reduceMul, Nat.reduceSub]
        (refine fin_x rfl ?_ ?_ <;> simp [pack, lo, loL, V.closed, closedL, mv_closed, hno (by simp only [taskNumS, decide_eq_false_iff_not]; omega)])
      simp (maxSteps := 1000000) (disch := omega) only [rg, opX, opI, look, nth, setN, outO, binO, intO, strO, argsE, appd, cpyO, slcO, slsO, bndO, lo1, mnxO, bldO, bldV, splice, rd, fpS, lk, isNil, Nat.reduceBEq, Nat.reduceEqDiff, Nat.reduceAdd, Int.reduceEq, Int.reduceLT, Int.reduceLE, Int.reduceToNat, reduceIte, reduceCtorEq, Nat.reduceLeDiff, Nat.reduceLT, Nat.reduceMul, Nat.reduceSub, e0, g1, g2, g3, g4, g5, g6]
      refine x_frz0 ?_
      simp (maxSteps := 1000000) (disch := omega) only [rg, opX, opI, look, nth, setN, outO, binO, intO, strO, argsE, appd, cpyO, slcO, slsO, bndO, lo1, mnxO, bldO, bldV, splice, rd, fpS, lk, isNil, Nat.reduceBEq, Nat.reduceEqDiff, Nat.reduceAdd, Int.reduceEq, Int.reduceLT, Int.reduceLE, Int.reduceToNat, reduceIte, reduceCtorEq, Nat.reduceLeDiff, Nat.reduceLT, Nat.reduceMul, Nat.reduceSub]
      refine hN _ _ i1 ?_
      refine ⟨hq2, ?_, rfl⟩
      rw [hr, taskOkS, hs]
      have : taskNumS d.tasks[i] = true := by simp only [taskNumS, decide_eq_true_eq]; omega
      simp [this]
  · obtain rfl : i = d.tasks.length := by omega
    refine hX _ _ _ ?_
    simp (maxSteps := 1000000) (disch := omega) only [rg, opX, opI, look, nth, setN, outO, binO, intO, strO, argsE, appd, cpyO, slcO, slsO, bndO, lo1, mnxO, bldO, bldV, splice, rd, fpS, lk, isNil, Nat.reduceBEq, Nat.reduceEqDiff, Nat.reduceAdd, Int.reduceEq, Int.reduceLT, Int.reduceLE, Int.reduceToNat, reduceIte, reduceCtorEq, Nat.reduceLeDiff, Nat.reduceLT, Nat.reduceMul, Nat.reduceSub]
    rw [List.drop_length, List.all_nil] at hr
    refine x_frz0 ?_
    simp (maxSteps := 1000000) (disch := omega) only [rg, opX, opI, look, nth, setN, outO, binO, intO, strO, argsE, appd, cpyO, slcO, slsO, bndO, lo1, mnxO, bldO, bldV, splice, rd, fpS, lk, isNil, Nat.reduceBEq, Nat.reduceEqDiff, Nat.reduceAdd, Int.reduceEq, Int.reduceLT, Int.reduceLE, Int.reduceToNat, reduceIte, reduceCtorEq, Nat.reduceLeDiff, Nat.reduceLT, Nat.reduceMul, Nat.reduceSub]
    (refine fin_x rfl ?_ ?_ <;> simp [pack, lo, loL, V.closed, closedL, mv_closed, hS.trans hr])

def cycK (ts : List Task) (i : Nat) : Bool := (reachK ts i ts.length).getD i false
def cycS (ts : List Task) : Bool := (List.range ts.length).any (cycK ts)
def refRightS (d : Dag) : Int :=
  if 10 < d.tasks.length then 2 else if shapedS d = false then 1 else if cycS d.tasks = true then 160 else 0

theorem ref_right (d : Dag) (hd : ∀ t ∈ d.tasks, t.needs.length ≤ 4611686018427387904) (hn : d.tasks.length ≤ 4611686018427387904) : PCall Try.prog 29 [dagV d] (.int .i64 (refRightS d)) := by
  refine en29 (by simp) (by simp [closedL, V.closed, dagV_closed]) ?_
  have ks := ref_shaped d hd hn
  have kr := fun f h1 h2 h3 h4 => ref_reach d f h1 h2 h3 h4
  unfold dagV tasksV at ks kr
  simp (maxSteps := 1000000) (disch := omega) only [rg, opX, opI, look, nth, setN, outO, binO, intO, strO, argsE, appd, cpyO, slcO, slsO, bndO, lo1, mnxO, bldO, bldV, splice, rd, fpS, lk, isNil, Nat.reduceBEq, Nat.reduceEqDiff, Nat.reduceAdd, Int.reduceEq, Int.reduceLT, Int.reduceLE, Int.reduceToNat, reduceIte, reduceCtorEq, Nat.reduceLeDiff, Nat.reduceLT, Nat.reduceMul, Nat.reduceSub, c29, dagV, tasksV]
  by_cases c0 : 10 < d.tasks.length
  · simp (maxSteps := 1000000) (disch := omega) only [rg, opX, opI, look, nth, setN, outO, binO, intO, strO, argsE, appd, cpyO, slcO, slsO, bndO, lo1, mnxO, bldO, bldV, splice, rd, fpS, lk, isNil, Nat.reduceBEq, Nat.reduceEqDiff, Nat.reduceAdd, Int.reduceEq, Int.reduceLT, Int.reduceLE, Int.reduceToNat, reduceIte, reduceCtorEq, Nat.reduceLeDiff, Nat.reduceLT, Nat.reduceMul, Nat.reduceSub, show (10 : Int) < d.tasks.length by omega]
    (refine fin_x rfl ?_ ?_ <;> simp [pack, lo, loL, V.closed, closedL, mv_closed, refRightS, c0])
  simp (maxSteps := 1000000) (disch := omega) only [rg, opX, opI, look, nth, setN, outO, binO, intO, strO, argsE, appd, cpyO, slcO, slsO, bndO, lo1, mnxO, bldO, bldV, splice, rd, fpS, lk, isNil, Nat.reduceBEq, Nat.reduceEqDiff, Nat.reduceAdd, Int.reduceEq, Int.reduceLT, Int.reduceLE, Int.reduceToNat, reduceIte, reduceCtorEq, Nat.reduceLeDiff, Nat.reduceLT, Nat.reduceMul, Nat.reduceSub, show ¬ (10 : Int) < d.tasks.length by omega]
  refine ⟨_, ks, ?_⟩
  cases hs : shapedS d with
  | false =>
    simp (maxSteps := 1000000) (disch := omega) only [rg, opX, opI, look, nth, setN, outO, binO, intO, strO, argsE, appd, cpyO, slcO, slsO, bndO, lo1, mnxO, bldO, bldV, splice, rd, fpS, lk, isNil, Nat.reduceBEq, Nat.reduceEqDiff, Nat.reduceAdd, Int.reduceEq, Int.reduceLT, Int.reduceLE, Int.reduceToNat, reduceIte, reduceCtorEq, Nat.reduceLeDiff, Nat.reduceLT, Nat.reduceMul, Nat.reduceSub]
    (refine fin_x rfl ?_ ?_ <;> simp [pack, lo, loL, V.closed, closedL, mv_closed, refRightS, c0, hs])
  | true =>
    have hall : ∀ t ∈ d.tasks, taskOkS t d.tasks.length = true := fun t ht => by
      simp only [shapedS, Bool.and_eq_true] at hs
      exact List.all_eq_true.1 hs.2 t ht
    have hrg : ∀ t ∈ d.tasks, (∀ x ∈ t.needs, 0 ≤ x ∧ x < d.tasks.length) ∧ (t.needs.length : Int) ≤ max ((d.tasks.length : Int) - 1 - (-1)) 0 := fun t ht => by
      have := hall t ht
      simp only [taskOkS, Bool.and_eq_true] at this
      exact rise_range this.1 (by omega)
    simp (maxSteps := 1000000) (disch := omega) only [rg, opX, opI, look, nth, setN, outO, binO, intO, strO, argsE, appd, cpyO, slcO, slsO, bndO, lo1, mnxO, bldO, bldV, splice, rd, fpS, lk, isNil, Nat.reduceBEq, Nat.reduceEqDiff, Nat.reduceAdd, Int.reduceEq, Int.reduceLT, Int.reduceLE, Int.reduceToNat, reduceIte, reduceCtorEq, Nat.reduceLeDiff, Nat.reduceLT, Nat.reduceMul, Nat.reduceSub]
    refine x_it d.tasks.length (fun i σ H => H.m 0 = some (.arr 2 [.agg [.str d.name, .fsl .loose 4 (mv taskV d.tasks)]]) ∧ (∀ j, j < i → cycK d.tasks j = false) ∧ σ = [(1, .ptr 0 0 0), (14, .int .i64 d.tasks.length), (15, .int .i64 i)]) ⟨(by simp (disch := omega) only [upd_eq, upd_ne, wo_0, wo_1, wo_2]), by simp, rfl⟩ ?_
    rintro T i σ ⟨q, m⟩ hi ⟨e0, hr, rfl⟩ hN hX hR
    simp only at e0
    simp (maxSteps := 1000000) (disch := omega) only [rg, opX, opI, look, nth, setN, outO, binO, intO, strO, argsE, appd, cpyO, slcO, slsO, bndO, lo1, mnxO, bldO, bldV, splice, rd, fpS, lk, isNil, Nat.reduceBEq, Nat.reduceEqDiff, Nat.reduceAdd, Int.reduceEq, Int.reduceLT, Int.reduceLE, Int.reduceToNat, reduceIte, reduceCtorEq, Nat.reduceLeDiff, Nat.reduceLT, Nat.reduceMul, Nat.reduceSub]
    refine ⟨fun h => ?_, fun h => ?_⟩
    · have i1 : i < d.tasks.length := by omega
      simp (maxSteps := 1000000) (disch := omega) only [rg, opX, opI, look, nth, setN, outO, binO, intO, strO, argsE, appd, cpyO, slcO, slsO, bndO, lo1, mnxO, bldO, bldV, splice, rd, fpS, lk, isNil, Nat.reduceBEq, Nat.reduceEqDiff, Nat.reduceAdd, Int.reduceEq, Int.reduceLT, Int.reduceLE, Int.reduceToNat, reduceIte, reduceCtorEq, Nat.reduceLeDiff, Nat.reduceLT, Nat.reduceMul, Nat.reduceSub, e0]
      refine ⟨_, kr i i1 (by omega) (fun t ht => by have := (hrg t ht).2; omega) (fun t ht => (hrg t ht).1), ?_⟩
      have hlt : i < (reachK d.tasks i d.tasks.length).length := by rw [reachK_len]; exact i1
      have hg : cycK d.tasks i = (reachK d.tasks i d.tasks.length)[i] := by simp [cycK, List.getD, hlt]
      simp (maxSteps := 1000000) (disch := omega) only [rg, opX, opI, look, nth, setN, outO, binO, intO, strO, argsE, appd, cpyO, slcO, slsO, bndO, lo1, mnxO, bldO, bldV, splice, rd, fpS, lk, isNil, Nat.reduceBEq, Nat.reduceEqDiff, Nat.reduceAdd, Int.reduceEq, Int.reduceLT, Int.reduceLE, Int.reduceToNat, reduceIte, reduceCtorEq, Nat.reduceLeDiff, Nat.reduceLT, Nat.reduceMul, Nat.reduceSub, vB_get hlt, ← hg]
      cases hc : cycK d.tasks i with
      | true =>
        simp (maxSteps := 1000000) (disch := omega) only [rg, opX, opI, look, nth, setN, outO, binO, intO, strO, argsE, appd, cpyO, slcO, slsO, bndO, lo1, mnxO, bldO, bldV, splice, rd, fpS, lk, isNil, Nat.reduceBEq, Nat.reduceEqDiff, Nat.reduceAdd, Int.reduceEq, Int.reduceLT, Int.reduceLE, Int.reduceToNat, reduceIte, reduceCtorEq, Nat.reduceLeDiff, Nat.reduceLT, Nat.reduceMul, Nat.reduceSub]
        refine hR _ _ ?_
        simp (maxSteps := 1000000) (disch := omega) only [rg, opX, opI, look, nth, setN, outO, binO, intO, strO, argsE, appd, cpyO, slcO, slsO, bndO, lo1, mnxO, bldO, bldV, splice, rd, fpS, lk, isNil, Nat.reduceBEq, Nat.reduceEqDiff, Nat.reduceAdd, Int.reduceEq, Int.reduceLT, Int.reduceLE, Int.reduceToNat, reduceIte, reduceCtorEq, Nat.reduceLeDiff, Nat.reduceLT, Nat.reduceMul, Nat.reduceSub]
        have hc2 : cycS d.tasks = true := by
          simp only [cycS, List.any_eq_true, List.mem_range]
          exact ⟨i, i1, hc⟩
        (refine fin_x rfl ?_ ?_ <;> simp [pack, lo, loL, V.closed, closedL, mv_closed, refRightS, c0, hs, hc2])
      | false =>
        simp (maxSteps := 1000000) (disch := omega) only [rg, opX, opI, look, nth, setN, outO, binO, intO, strO, argsE, appd, cpyO, slcO, slsO, bndO, lo1, mnxO, bldO, bldV, splice, rd, fpS, lk, isNil, Nat.reduceBEq, Nat.reduceEqDiff, Nat.reduceAdd, Int.reduceEq, Int.reduceLT, Int.reduceLE, Int.reduceToNat, reduceIte, reduceCtorEq, Nat.reduceLeDiff, Nat.reduceLT, Nat.reduceMul, Nat.reduceSub]
        refine hN _ _ i1 ?_
        refine ⟨e0, fun j hj => ?_, rfl⟩
        rcases Nat.lt_or_ge j i with h' | h'
        · exact hr j h'
        · obtain rfl : j = i := by omega
          exact hc
    · obtain rfl : i = d.tasks.length := by omega
      refine hX _ _ _ ?_
      simp (maxSteps := 1000000) (disch := omega) only [rg, opX, opI, look, nth, setN, outO, binO, intO, strO, argsE, appd, cpyO, slcO, slsO, bndO, lo1, mnxO, bldO, bldV, splice, rd, fpS, lk, isNil, Nat.reduceBEq, Nat.reduceEqDiff, Nat.reduceAdd, Int.reduceEq, Int.reduceLT, Int.reduceLE, Int.reduceToNat, reduceIte, reduceCtorEq, Nat.reduceLeDiff, Nat.reduceLT, Nat.reduceMul, Nat.reduceSub]
      refine x_frz0 ?_
      simp (maxSteps := 1000000) (disch := omega) only [rg, opX, opI, look, nth, setN, outO, binO, intO, strO, argsE, appd, cpyO, slcO, slsO, bndO, lo1, mnxO, bldO, bldV, splice, rd, fpS, lk, isNil, Nat.reduceBEq, Nat.reduceEqDiff, Nat.reduceAdd, Int.reduceEq, Int.reduceLT, Int.reduceLE, Int.reduceToNat, reduceIte, reduceCtorEq, Nat.reduceLeDiff, Nat.reduceLT, Nat.reduceMul, Nat.reduceSub]
      have hc : cycS d.tasks = false := by
        simp only [cycS, List.any_eq_false, List.mem_range]
        intro j hj; simp [hr j hj]
      (refine fin_x rfl ?_ ?_ <;> simp [pack, lo, loL, V.closed, closedL, mv_closed, refRightS, c0, hs, hc])

end Go.Proofs.Ytjlpmndipceboaa.Ev
end
section
set_option linter.unusedSimpArgs false
set_option linter.unusedVariables false
set_option maxRecDepth 10000
namespace Go.Proofs.Ytjlpmndipceboaa.Ev
open Go

def ndR (ts : List Task) (b a : Nat) : Prop := (b : Int) ∈ needsOf ts a
theorem gD_set {o : List Bool} {k j : Nat} : (o.set k true).getD j false = (o.getD j false || (decide (k = j) && decide (j < o.length))) := by
  simp only [List.getD_eq_getElem?_getD, List.getElem?_set]
  by_cases h : k = j
  · subst h
    by_cases h2 : k < o.length
    · simp [h2]
    · simp [h2]
  · simp [h]
theorem gD_lt {o : List Bool} {j : Nat} (h : o.getD j false = true) : j < o.length := by
  rcases Nat.lt_or_ge j o.length with h' | h'
  · exact h'
  · simp [List.getD_eq_getElem?_getD, h'] at h
theorem markS_mono : ∀ (l : List Int) (o : List Bool) (j : Nat), o.getD j false = true → (markS l o).getD j false = true
  | [], _, _, h => h
  | x :: l, o, j, h => markS_mono l (o.set x.toNat true) j (by rw [gD_set, h]; rfl)
theorem markS_get : ∀ (l : List Int) (o : List Bool) (j : Nat), j < o.length → (j : Int) ∈ l → (markS l o).getD j false = true
  | x :: l, o, j, hj, h => by
    show (markS l (o.set x.toNat true)).getD j false = true
    rcases List.mem_cons.1 h with h | h
    · subst h
      exact markS_mono l _ j (by rw [gD_set]; simp [hj])
    · exact markS_get l _ j (by simpa using hj) h
theorem markS_only : ∀ (l : List Int) (o : List Bool) (j : Nat), (∀ x ∈ l, 0 ≤ x) → (markS l o).getD j false = true → o.getD j false = true ∨ (j : Int) ∈ l
  | [], _, _, _, h => .inl h
  | x :: l, o, j, h0, h => by
    have hx := h0 x (by simp)
    rcases markS_only l (o.set x.toNat true) j (fun y hy => h0 y (by simp [hy])) h with h1 | h1
    · rw [gD_set] at h1
      simp only [Bool.or_eq_true, Bool.and_eq_true, decide_eq_true_eq] at h1
      rcases h1 with h1 | ⟨h1, _⟩
      · exact .inl h1
      · right; have : (j : Int) = x := by omega
        simp [this]
    · exact .inr (by simp [h1])
theorem roundS_mono (ts : List Task) : ∀ (k : Nat) (o : List Bool) (j : Nat), o.getD j false = true → (roundS ts k o).getD j false = true
  | 0, _, _, h => h
  | k + 1, o, j, h => by
    rw [roundS]; split
    · exact markS_mono _ _ _ (roundS_mono ts k o j h)
    · exact roundS_mono ts k o j h
theorem roundS_get (ts : List Task) : ∀ (m : Nat) (o : List Bool) (k j : Nat), k < m → j < o.length → o.getD k false = true → ndR ts j k → (roundS ts m o).getD j false = true
  | m + 1, o, k, j, hk, hj, h, he => by
    rw [roundS]
    rcases Nat.lt_or_ge k m with h1 | h1
    · have := roundS_get ts m o k j h1 hj h he
      split
      · exact markS_mono _ _ _ this
      · exact this
    · obtain rfl : k = m := by omega
      rw [if_pos (roundS_mono ts k o k h)]
      exact markS_get _ _ _ (by rw [roundS_len]; exact hj) he
theorem roundS_only (ts : List Task) (h0 : ∀ k, ∀ x ∈ needsOf ts k, 0 ≤ x) (G : Nat → Prop) (hG : ∀ b c, G b → ndR ts c b → G c) : ∀ (m : Nat) (o : List Bool), (∀ j, o.getD j false = true → G j) → ∀ j, (roundS ts m o).getD j false = true → G j
  | 0, _, h, j, hj => h j hj
  | m + 1, o, h, j, hj => by
    have ih := roundS_only ts h0 G hG m o h
    rw [roundS] at hj
    split at hj
    · next hm =>
      rcases markS_only _ _ _ (h0 m) hj with h1 | h1
      · exact ih j h1
      · exact hG m j (ih m hm) h1
    · exact ih j hj
theorem reachK_only (ts : List Task) (h0 : ∀ k, ∀ x ∈ needsOf ts k, 0 ≤ x) (i : Nat) : ∀ (k j : Nat), (reachK ts i k).getD j false = true → Relation.TransGen (ndR ts) j i
  | 0, j, h => by
    rcases markS_only _ _ _ (h0 i) h with h1 | h1
    · exfalso
      have := gD_lt h1
      simp only [List.length_replicate] at this
      simp [List.getD_eq_getElem?_getD, this] at h1
    · exact .single h1
  | k + 1, j, h => roundS_only ts h0 (fun j => Relation.TransGen (ndR ts) j i) (fun b c hb hc => .trans (.single hc) hb) ts.length _ (fun j hj => reachK_only ts h0 i k j hj) j h

/-- A way of k steps. -/
inductive Way (ts : List Task) : Nat → Nat → Nat → Prop
  | one {a b : Nat} : ndR ts b a → Way ts 0 a b
  | more {k a b c : Nat} : Way ts k a b → ndR ts c b → Way ts (k + 1) a c
theorem nd_lt {ts : List Task} (hin : ∀ k, ∀ x ∈ needsOf ts k, 0 ≤ x ∧ x < ts.length) {a b : Nat} (h : ndR ts b a) : b < ts.length ∧ a < ts.length := by
  refine ⟨by have := hin a b h; omega, ?_⟩
  rcases Nat.lt_or_ge a ts.length with h' | h'
  · exact h'
  · simp [ndR, needsOf, h'] at h
theorem reachK_way {ts : List Task} (hin : ∀ k, ∀ x ∈ needsOf ts k, 0 ≤ x ∧ x < ts.length) {i : Nat} : ∀ {k j : Nat}, Way ts k i j → (reachK ts i k).getD j false = true
  | 0, j, .one h => markS_get _ _ _ (by simpa using (nd_lt hin h).1) h
  | k + 1, j, .more hw h => by
    have := reachK_way hin hw
    exact roundS_get ts _ _ _ _ (nd_lt hin h).2 (by rw [reachK_len]; exact (nd_lt hin h).1) this h
theorem reachK_le {ts : List Task} {i j k : Nat} (h : (reachK ts i k).getD j false = true) : ∀ m, k ≤ m → (reachK ts i m).getD j false = true := by
  intro m hm
  obtain ⟨d, rfl⟩ := Nat.exists_eq_add_of_le hm
  induction d with
  | zero => exact h
  | succ d ih => exact roundS_mono ts _ _ _ (ih (by omega))

theorem pigeon : ∀ (n : Nat) (f : Nat → Nat), (∀ k, k ≤ n → f k < n) → ∃ a b, a < b ∧ b ≤ n ∧ f a = f b
  | 0, f, h => absurd (h 0 (Nat.le_refl 0)) (by omega)
  | n + 1, f, h => by
    by_cases hc : ∃ a, a ≤ n ∧ f a = f (n + 1)
    · obtain ⟨a, h1, h2⟩ := hc
      exact ⟨a, n + 1, by omega, by omega, h2⟩
    · have hc' : ∀ a, a ≤ n → f a ≠ f (n + 1) := fun a ha he => hc ⟨a, ha, he⟩
      obtain ⟨a, b, h1, h2, h3⟩ := pigeon n (fun k => if f k = n then f (n + 1) else f k) (fun k hk => by
        have := h k (by omega)
        have := h (n + 1) (by omega)
        have := hc' k hk
        split <;> omega)
      refine ⟨a, b, h1, by omega, ?_⟩
      have ha := hc' a (by omega)
      have hb := hc' b (by omega)
      split at h3 <;> split at h3 <;> omega

theorem acc_irr {r : Nat → Nat → Prop} {a : Nat} (h : Acc r a) : ¬ r a a := by
  induction h with
  | intro a _ ih => exact fun hr => ih a hr hr

/-- What is left when nothing is free: either all is done, or each that is not done needs another that is not. -/
theorem orderS_acc {ts : List Task} (hin : ∀ k, ∀ x ∈ needsOf ts k, 0 ≤ x ∧ x < ts.length) : ∀ (k : Nat) (done : List Bool) (out : List Int), done.length = ts.length → ts.length < k + done.count true → out.length = done.count true → (∀ j, done.getD j false = true → Acc (ndR ts) j) →
    ∃ d : List Bool, d.length = ts.length ∧ freeS ts d ts.length = [] ∧ d.count true = (orderS ts k done out).length ∧ ∀ j, d.getD j false = true → Acc (ndR ts) j
  | 0, done, out, h1, h2, _, _ => by have := List.count_le_length (l := done) (a := true); omega
  | k + 1, done, out, h1, h2, h3, h4 => by
    rw [orderS]
    cases hf : freeS ts done ts.length with
    | nil => exact ⟨done, h1, hf, h3.symm, h4⟩
    | cons x l =>
      obtain ⟨i, hx, hi, hb⟩ := freeS_mem (x := x) (by rw [hf]; simp)
      subst hx
      simp only [freeB, Bool.and_eq_true, Bool.not_eq_true'] at hb
      have hc := count_set (show i < done.length by omega) hb.1
      have := orderS_acc hin k (done.set i true) (out ++ [(i : Int)]) (by simpa using h1) (by omega) (by simp; omega) (fun j hj => by
        rw [gD_set] at hj
        simp only [Bool.or_eq_true, Bool.and_eq_true, decide_eq_true_eq] at hj
        rcases hj with hj | ⟨rfl, _⟩
        · exact h4 j hj
        · refine Acc.intro _ fun b hbn => ?_
          have hbn' : (b : Int) ∈ ts[i].needs := by rwa [ndR, needsOf_get hi] at hbn
          have := List.all_eq_true.1 hb.2 _ hbn'
          exact h4 b (by simpa using this))
      simpa using this

theorem cyc_order {ts : List Task} (hr : inR ts ts.length) : cycS ts = decide ((orderF ts).length < ts.length) := by
  have hin : ∀ k, ∀ x ∈ needsOf ts k, 0 ≤ x ∧ x < ts.length := fun k x hx => by
    rcases Nat.lt_or_ge k ts.length with h | h
    · rw [needsOf_get h] at hx; exact hr _ (List.getElem_mem h) x hx
    · simp [needsOf, h] at hx
  obtain ⟨d, h1, h2, h3, h4⟩ := orderS_acc hin (ts.length + 1) (List.replicate ts.length false) [] (by simp) (by omega) (by simp [List.count_replicate]) (fun j hj => by
    have := gD_lt hj; simp only [List.length_replicate] at this
    simp [List.getD_eq_getElem?_getD, this] at hj)
  have h3' : d.count true = (orderF ts).length := h3
  by_cases hlt : (orderF ts).length < ts.length
  · simp only [hlt, decide_true]
    -- one that is not done
    obtain ⟨i0, hi0, hd0⟩ : ∃ i, i < ts.length ∧ d.getD i false = false := by
      apply Classical.byContradiction
      intro hno
      have : d.count true = d.length := List.count_eq_length.2 (fun b hb => by
        obtain ⟨i, hi, rfl⟩ := List.mem_iff_getElem.1 hb
        cases hc : d[i] with
        | true => rfl
        | false => exact absurd ⟨i, by omega, by simp [List.getD_eq_getElem?_getD, hi, hc]⟩ hno)
      omega
    have hnext : ∀ i, ∃ j, (i < ts.length ∧ d.getD i false = false) → (j < ts.length ∧ d.getD j false = false ∧ ndR ts j i) := fun i => by
      by_cases hc : i < ts.length ∧ d.getD i false = false
      · obtain ⟨hi, hdi⟩ := hc
        have hnf : freeB ts[i] d i = false := by
          cases hfb : freeB ts[i] d i with
          | false => rfl
          | true =>
            have : (i : Int) ∈ freeS ts d ts.length := by
              simp only [freeS, List.mem_map, List.mem_filter, List.take_length]
              exact ⟨(ts[i], i), ⟨by rw [List.mem_zipIdx_iff_getElem?]; simp [hi], hfb⟩, rfl⟩
            rw [h2] at this; cases this
        rw [freeB, hdi, Bool.not_false, Bool.true_and] at hnf
        obtain ⟨x, hx, hxd⟩ := List.all_eq_false.1 hnf
        have hxr := hr _ (List.getElem_mem hi) x hx
        refine ⟨x.toNat, fun _ => ⟨by omega, by simpa using hxd, ?_⟩⟩
        rw [ndR, needsOf_get hi, show ((x.toNat : Nat) : Int) = x by omega]; exact hx
      · exact ⟨0, fun h => absurd h hc⟩
    let nx : Nat → Nat := fun i => Classical.choose (hnext i)
    have hnx : ∀ i, (i < ts.length ∧ d.getD i false = false) → (nx i < ts.length ∧ d.getD (nx i) false = false ∧ ndR ts (nx i) i) := fun i => Classical.choose_spec (hnext i)
    let f : Nat → Nat := fun k => Nat.rec i0 (fun _ r => nx r) k
    have hf : ∀ k, f k < ts.length ∧ d.getD (f k) false = false := fun k => by
      induction k with
      | zero => exact ⟨hi0, hd0⟩
      | succ k ih => exact ⟨(hnx (f k) ih).1, (hnx (f k) ih).2.1⟩
    have hstep : ∀ k, ndR ts (f (k + 1)) (f k) := fun k => (hnx (f k) (hf k)).2.2
    have hway : ∀ m a, Way ts m (f a) (f (a + m + 1)) := fun m => by
      induction m with
      | zero => exact fun a => .one (hstep a)
      | succ m ih => exact fun a => .more (ih a) (hstep (a + m + 1))
    obtain ⟨a, b, k1, k2, k3⟩ := pigeon ts.length f (fun k _ => (hf k).1)
    have hw := hway (b - a - 1) a
    rw [show a + (b - a - 1) + 1 = b by omega, ← k3] at hw
    simp only [cycS, List.any_eq_true, List.mem_range]
    exact ⟨f a, (hf a).1, reachK_le (reachK_way hin hw) _ (by omega)⟩
  · simp only [hlt, decide_false]
    have hfull : d.count true = d.length := by have := List.count_le_length (l := d) (a := true); omega
    have hacc : ∀ j, j < ts.length → Acc (ndR ts) j := fun j hj => h4 j (by
      have := List.count_eq_length.1 hfull d[j] (List.getElem_mem (by omega))
      simp [List.getD_eq_getElem?_getD, show j < d.length by omega, ← this])
    simp only [cycS, List.any_eq_false, List.mem_range]
    intro j hj hc
    exact acc_irr (hacc j hj).transGen (reachK_only ts (fun k x hx => (hin k x hx).1) j _ j hc)

theorem right_same (d : Dag) : refRightS d = dagRightS d := by
  unfold refRightS dagRightS
  by_cases c0 : 10 < d.tasks.length
  · rw [if_pos c0, if_pos c0]
  rw [if_neg c0, if_neg c0]
  have e : shapedS d = false ↔ (d.tasks.length < 1 ∨ d.name.length < 1 ∨ 16 < d.name.length ∨ (d.tasks.any fun t => !taskOkS t d.tasks.length) = true) := by
    have hall : (d.tasks.any fun t => !taskOkS t d.tasks.length) = !(d.tasks.all fun t => taskOkS t d.tasks.length) := by rw [List.not_all_eq_any_not]
    rw [hall, shapedS]
    cases (d.tasks.all fun t => taskOkS t d.tasks.length)
    · simp only [Bool.and_false, Bool.not_false, or_true]
    · simp only [Bool.and_true, Bool.not_true, Bool.not_eq_false', decide_eq_true_eq, Bool.false_eq_true, or_false]
  by_cases c1 : shapedS d = false
  · rw [if_pos c1, if_pos (e.1 c1)]
  · rw [if_neg c1, if_neg (fun h => c1 (e.2 h))]
    have hin : inR d.tasks d.tasks.length := fun t ht => by
      have : taskOkS t d.tasks.length = true := by
        cases hk : taskOkS t d.tasks.length with
        | true => rfl
        | false => exact absurd (e.2 (.inr (.inr (.inr (List.any_eq_true.2 ⟨t, ht, by rw [hk]; rfl⟩))))) c1
      simp only [taskOkS, Bool.and_eq_true] at this
      exact (rise_range this.1 (by omega)).1
    rw [cyc_order hin]
    simp only [decide_eq_true_eq]

end Go.Proofs.Ytjlpmndipceboaa.Ev
end
