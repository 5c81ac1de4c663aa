/-
  The program's code in compact form, with its checks.
-/
import Derived.Test.YtickdhdlljhomaaBC1
import Derived.Test.YtickdhdlljhomaaProg
import Derived.KernelRfl
set_option linter.unusedSimpArgs false
namespace Go.Proofs.Ytickdhdlljhomaa.Ev
open Go
/-- `slices.Clone[[]bool,bool]` -/
def c43 : C :=
  (.seq
 (.reg false [p (.mov (.k (.fsl .nil 1 [])))] [(0, .v 0)])
 (.seq
 (.seq
 (.reg false [p (.mov (.v 0)),
 p (.eqn false .s (.r 0))] [(0, .v 0), (4, .r 0)])
 (.cond (.v 4)
 (.seq
 (.reg false [p (.mov (.k (.fsl .nil 1 [])))] [(2, .r 0)])
 .ret)
 .skip))
 (.seq
 (.reg false [p (.bsl 1 []),
 p (.mov (.v 0)),
 p (.app 1 1 (.r 1) (.r 0)),
 p (.mov (.r 0))] [(2, .r 0)])
 .ret)))
def r43 : List RV := [.t 2]
theorem chk43 : Chk Try.prog Try.f43 c43 r43 := ⟨_, rfl, by kernel_rfl, by kernel_rfl⟩
theorem ena43 : EnA Try.prog 43 8 c43 r43 := mkEnA (by kernel_rfl) Try.func43 (by kernel_rfl) chk43
theorem en43 : EnP Try.prog 43 8 c43 r43 := mkEnP (by kernel_rfl) Try.func43 (by kernel_rfl) chk43

/-- `penelope/bits.With` -/
def c21 : C :=
  (.seq
 (.reg false [p (.mov (.k (.fsl .nil 1 []))),
 p (.mov (.k (.int .i64 0)))] [(0, .v 0), (1, .v 1), (2, .v 2)])
 (.seq
 (.reg false [p (.mov (.v 0)),
 p (.call false (.k (.fn 43 [] [])) [.r 0]),
 p (.mov (.r 0))] [(0, .v 0), (1, .v 1), (2, .v 2), (8, .r 0)])
 (.seq
 (.seq
 (.reg false [p (.mov (.v 2)),
 p (.len false (.r 0)),
 p (.mov (.k (.int .i64 0)))] [(0, .v 0), (1, .v 1), (8, .v 8), (13, .r 2), (14, .r 1), (15, .r 0)])
 (.block 0
 (.loop
 (.seq
 (.reg false [p (.bin .lss (.v 15) (.v 14))] [(0, .v 0), (1, .v 1), (8, .v 8), (13, .v 13), (14, .v 14), (15, .v 15), (16, .r 0)])
 (.seq
 (.cond (.v 16)
 .skip
 (.exit 0))
 (.seq
 (.block 1
 (.seq
 (.reg false [p (.iad 1 (.v 13) (.v 15)),
 p (.load (none) (.r 0)),
 p (.mov (.r 0))] [(0, .v 0), (1, .v 1), (8, .v 8), (10, .r 0), (13, .v 13), (14, .v 14), (15, .v 15)])
 (.seq
 (.seq
 (.reg false [p (.mov (.v 10)),
 p (.bin .lss (.r 0) (.k (.int .i64 0))),
 p (.mov (.r 0)),
 ⟨.mov (.v 10), some (0, false), []⟩,
 ⟨.mov (.v 0), some (1, false), []⟩,
 ⟨.len false (.r 0), some (2, false), []⟩,
 ⟨.bin .geq (.r 2) (.r 0), some (3, false), []⟩,
 p (.pick (.r 4) (.k (.bool true)) (.r 0))] [(0, .v 0), (1, .v 1), (8, .v 8), (10, .v 10), (13, .v 13), (14, .v 14), (15, .v 15), (26, .r 0)])
 (.cond (.v 26)
 (.seq
 (.reg false [p (.mov (.k (.fsl .nil 1 []))),
 p (.mov (.k (.int .i64 1)))] [(6, .r 1), (7, .r 0)])
 .ret)
 .skip))
 (.reg false [p (.mov (.v 8)),
 p (.mov (.v 10)),
 p (.mov (.v 1)),
 p (.iad 1 (.r 2) (.r 1)),
 p (.store (none) (.r 0) (.r 1))] [(0, .v 0), (1, .v 1), (8, .v 8), (13, .v 13), (14, .v 14), (15, .v 15)]))))
 (.reg false [p (.bin .add (.v 15) (.k (.int .i64 1))),
 p (.mov (.r 0))] [(0, .v 0), (1, .v 1), (8, .v 8), (13, .v 13), (14, .v 14), (15, .r 0)])))))))
 (.frz
 (.seq
 (.reg false [p (.mov (.v 8)),
 p (.mov (.r 0)),
 p (.mov (.k (.int .i64 0)))] [(6, .r 1), (7, .r 0)])
 .ret)))))
def r21 : List RV := [.t 6, .t 7]
theorem chk21 : Chk Try.prog Try.f21 c21 r21 := ⟨_, rfl, by kernel_rfl, by kernel_rfl⟩
theorem en21 : EnP Try.prog 21 33 c21 r21 := mkEnP (by kernel_rfl) Try.func21 (by kernel_rfl) chk21

/-- `penelope/peneloperef05.With` -/
def c22 : C :=
  (.seq
 (.reg false [p (.mov (.k (.fsl .nil 1 []))),
 p (.mov (.k (.int .i64 0)))] [(0, .v 0), (1, .v 1), (2, .v 2)])
 (.seq
 (.reg false [p (.bsl 1 []),
 p (.mov (.r 0))] [(0, .v 0), (1, .v 1), (2, .v 2), (8, .r 0)])
 (.seq
 (.seq
 (.reg false [p (.mov (.v 0)),
 p (.len false (.r 0)),
 p (.mov (.k (.int .i64 0)))] [(0, .v 0), (1, .v 1), (2, .v 2), (8, .v 8), (17, .r 1), (18, .r 0)])
 (.block 0
 (.loop
 (.seq
 (.reg false [p (.bin .lss (.v 18) (.v 17))] [(0, .v 0), (1, .v 1), (2, .v 2), (8, .v 8), (17, .v 17), (18, .v 18), (19, .r 0)])
 (.seq
 (.cond (.v 19)
 .skip
 (.exit 0))
 (.seq
 (.block 1
 (.seq
 (.reg false [p (.mov (.v 18)),
 p (.mov (.r 0))] [(0, .v 0), (1, .v 1), (2, .v 2), (8, .v 8), (9, .r 0), (17, .v 17), (18, .v 18)])
 (.seq
 (.reg false [p (.mov (.v 0)),
 p (.mov (.v 9)),
 p (.iad 1 (.r 1) (.r 0)),
 p (.load (none) (.r 0)),
 p (.mov (.r 0))] [(0, .v 0), (1, .v 1), (2, .v 2), (8, .v 8), (9, .v 9), (10, .r 0), (17, .v 17), (18, .v 18)])
 (.seq
 (.seq
 (.reg false [p (.mov (.v 2)),
 p (.len false (.r 0)),
 p (.mov (.k (.int .i64 0)))] [(0, .v 0), (1, .v 1), (2, .v 2), (8, .v 8), (9, .v 9), (10, .v 10), (17, .v 17), (18, .v 18), (25, .r 2), (26, .r 1), (27, .r 0)])
 (.block 2
 (.loop
 (.seq
 (.reg false [p (.bin .lss (.v 27) (.v 26))] [(0, .v 0), (1, .v 1), (2, .v 2), (8, .v 8), (9, .v 9), (10, .v 10), (17, .v 17), (18, .v 18), (25, .v 25), (26, .v 26), (27, .v 27), (28, .r 0)])
 (.seq
 (.cond (.v 28)
 .skip
 (.exit 2))
 (.seq
 (.block 3
 (.seq
 (.reg false [p (.iad 1 (.v 25) (.v 27)),
 p (.load (none) (.r 0)),
 p (.mov (.r 0))] [(0, .v 0), (1, .v 1), (2, .v 2), (8, .v 8), (9, .v 9), (10, .v 10), (12, .r 0), (17, .v 17), (18, .v 18), (25, .v 25), (26, .v 26), (27, .v 27)])
 (.seq
 (.reg false [p (.mov (.v 12)),
 p (.mov (.v 9)),
 p (.bin .eql (.r 1) (.r 0))] [(0, .v 0), (1, .v 1), (2, .v 2), (8, .v 8), (9, .v 9), (10, .v 10), (17, .v 17), (18, .v 18), (25, .v 25), (26, .v 26), (27, .v 27), (33, .r 0)])
 (.cond (.v 33)
 (.reg false [p (.mov (.v 1)),
 p (.mov (.r 0))] [(0, .v 0), (1, .v 1), (2, .v 2), (8, .v 8), (9, .v 9), (10, .r 0), (17, .v 17), (18, .v 18), (25, .v 25), (26, .v 26), (27, .v 27)])
 .skip))))
 (.reg false [p (.bin .add (.v 27) (.k (.int .i64 1))),
 p (.mov (.r 0))] [(0, .v 0), (1, .v 1), (2, .v 2), (8, .v 8), (9, .v 9), (10, .v 10), (17, .v 17), (18, .v 18), (25, .v 25), (26, .v 26), (27, .r 0)])))))))
 (.frz
 (.reg false [p (.mov (.v 8)),
 p (.mov (.v 10)),
 p (.bsl 1 [.r 0]),
 p (.app 1 1 (.r 2) (.r 0)),
 p (.mov (.r 0))] [(0, .v 0), (1, .v 1), (2, .v 2), (8, .r 0), (17, .v 17), (18, .v 18)]))))))
 (.frz
 (.reg false [p (.bin .add (.v 18) (.k (.int .i64 1))),
 p (.mov (.r 0))] [(0, .v 0), (1, .v 1), (2, .v 2), (8, .v 8), (17, .v 17), (18, .r 0)]))))))))
 (.frz
 (.seq
 (.seq
 (.reg false [p (.mov (.v 2)),
 p (.len false (.r 0)),
 p (.mov (.k (.int .i64 0)))] [(0, .v 0), (8, .v 8), (41, .r 2), (42, .r 1), (43, .r 0)])
 (.block 4
 (.loop
 (.seq
 (.reg false [p (.bin .lss (.v 43) (.v 42))] [(0, .v 0), (8, .v 8), (41, .v 41), (42, .v 42), (43, .v 43), (44, .r 0)])
 (.seq
 (.cond (.v 44)
 .skip
 (.exit 4))
 (.seq
 (.block 5
 (.seq
 (.reg false [p (.iad 1 (.v 41) (.v 43)),
 p (.load (none) (.r 0)),
 p (.mov (.r 0))] [(0, .v 0), (8, .v 8), (14, .r 0), (41, .v 41), (42, .v 42), (43, .v 43)])
 (.seq
 (.reg false [p (.mov (.v 14)),
 p (.bin .lss (.r 0) (.k (.int .i64 0))),
 p (.mov (.r 0)),
 ⟨.mov (.v 14), some (0, false), []⟩,
 ⟨.mov (.v 0), some (1, false), []⟩,
 ⟨.len false (.r 0), some (2, false), []⟩,
 ⟨.bin .geq (.r 2) (.r 0), some (3, false), []⟩,
 p (.pick (.r 4) (.k (.bool true)) (.r 0))] [(0, .v 0), (8, .v 8), (41, .v 41), (42, .v 42), (43, .v 43), (54, .r 0)])
 (.cond (.v 54)
 (.seq
 (.reg false [p (.mov (.k (.fsl .nil 1 []))),
 p (.mov (.k (.int .i64 1)))] [(6, .r 1), (7, .r 0)])
 .ret)
 .skip))))
 (.reg false [p (.bin .add (.v 43) (.k (.int .i64 1))),
 p (.mov (.r 0))] [(0, .v 0), (8, .v 8), (41, .v 41), (42, .v 42), (43, .r 0)])))))))
 (.frz
 (.seq
 (.reg false [p (.mov (.v 8)),
 p (.mov (.r 0)),
 p (.mov (.k (.int .i64 0)))] [(6, .r 1), (7, .r 0)])
 .ret)))))))
def r22 : List RV := [.t 6, .t 7]
theorem chk22 : Chk Try.prog Try.f22 c22 r22 := ⟨_, rfl, by kernel_rfl, by kernel_rfl⟩
theorem en22 : EnP Try.prog 22 57 c22 r22 := mkEnP (by kernel_rfl) Try.func22 (by kernel_rfl) chk22

/-- `penelope/penelopelaw05.BitsSets` -/
def c5 : C :=
  (.seq
 (.reg false [p (.mov (.k (.bool false)))] [(0, .v 0), (1, .v 1), (2, .v 2)])
 (.seq
 (.reg true [p (.mov (.v 0)),
 p (.mov (.v 0)),
 p (.len false (.r 0)),
 p (.mnx false (.r 0) [.k (.int .i64 300)]),
 p (.slc 1 (.r 3) none (some (.r 0)) none),
 p (.mov (.v 2)),
 p (.mov (.v 2)),
 p (.len false (.r 0)),
 p (.mnx false (.r 0) [.k (.int .i64 20)]),
 p (.slc 1 (.r 3) none (some (.r 0)) none),
 p (.mov (.r 5)),
 p (.mov (.r 1))] [(0, .r 1), (1, .v 1), (2, .r 0)])
 (.seq
 (.reg false [p (.bsl 1 []),
 p (.mov (.v 0)),
 p (.app 1 1 (.r 1) (.r 0)),
 p (.mov (.r 0))] [(0, .v 0), (1, .v 1), (2, .v 2), (7, .r 0)])
 (.frz
 (.seq
 (.reg false [p (.mov (.v 7)),
 p (.mov (.v 1)),
 p (.mov (.v 2)),
 p (.call true (.k (.fn 21 [] [])) [.r 2, .r 1, .r 0]),
 p (.mov (.r 0)),
 p (.ext (.r 0) 0),
 p (.ext (.r 1) 1),
 p (.mov (.r 1)),
 p (.mov (.r 1))] [(0, .v 0), (1, .v 1), (2, .v 2), (7, .v 7), (8, .r 1), (9, .r 0)])
 (.seq
 (.reg false [p (.mov (.v 0)),
 p (.mov (.v 1)),
 p (.mov (.v 2)),
 p (.call true (.k (.fn 22 [] [])) [.r 2, .r 1, .r 0]),
 p (.mov (.r 0)),
 p (.ext (.r 0) 0),
 p (.ext (.r 1) 1),
 p (.mov (.r 1)),
 p (.mov (.r 1))] [(0, .v 0), (7, .v 7), (8, .v 8), (9, .v 9), (10, .r 1), (11, .r 0)])
 (.seq
 (.reg false [p (.call true (.k (.fn 17 [] [])) []),
 p (.mov (.r 0)),
 ⟨.mov (.v 9), some (0, true), []⟩,
 ⟨.mov (.v 11), some (1, true), []⟩,
 ⟨.bin .eql (.r 1) (.r 0), some (2, true), []⟩,
 p (.pick (.r 3) (.r 0) (.k (.bool false))),
 p (.mov (.r 0)),
 ⟨.mov (.v 8), some (0, true), []⟩,
 ⟨.mov (.v 10), some (1, true), []⟩,
 ⟨.call true (.k (.fn 20 [] [])) [.r 1, .r 0], some (2, true), []⟩,
 p (.pick (.r 3) (.r 0) (.k (.bool false))),
 p (.mov (.r 0)),
 ⟨.mov (.v 7), some (0, true), []⟩,
 ⟨.mov (.v 0), some (1, true), []⟩,
 ⟨.call true (.k (.fn 20 [] [])) [.r 1, .r 0], some (2, true), []⟩,
 p (.pick (.r 3) (.r 0) (.k (.bool false))),
 p (.mov (.r 0))] [(6, .r 0)])
 .ret)))))))
def r5 : List RV := [.t 6]
theorem chk5 : Chk Try.prog Try.f5 c5 r5 := ⟨_, rfl, by kernel_rfl, by kernel_rfl⟩
theorem en5 : EnP Try.prog 5 55 c5 r5 := mkEnP (by kernel_rfl) Try.func5 (by kernel_rfl) chk5


end Go.Proofs.Ytickdhdlljhomaa.Ev
