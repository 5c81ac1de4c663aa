/-
  The program's code in compact form, with its checks.
-/
import Derived.Test.YtickdhdlljhomaaBC2
import Derived.Test.YtickdhdlljhomaaProg
import Derived.KernelRfl
set_option linter.unusedSimpArgs false
namespace Go.Proofs.Ytickdhdlljhomaa.Ev
open Go
/-- `slices.IndexFunc[[][]bool,[]bool]` -/
def c52 : C :=
  (.seq
 (.reg false [p (.mov (.k (.int .i64 0)))] [(0, .v 0), (1, .v 1)])
 (.seq
 (.seq
 (.reg false [p (.mov (.v 0)),
 p (.len false (.r 0)),
 p (.mov (.k (.int .i64 0)))] [(0, .v 0), (1, .v 1), (7, .r 1), (8, .r 0)])
 (.block 0
 (.loop
 (.seq
 (.reg false [p (.bin .lss (.v 8) (.v 7))] [(0, .v 0), (1, .v 1), (7, .v 7), (8, .v 8), (9, .r 0)])
 (.seq
 (.cond (.v 9)
 .skip
 (.exit 0))
 (.seq
 (.block 1
 (.seq
 (.reg false [p (.mov (.v 8)),
 p (.mov (.r 0))] [(0, .v 0), (1, .v 1), (5, .r 0), (7, .v 7), (8, .v 8)])
 (.seq
 (.reg false [p (.mov (.v 1)),
 p (.mov (.v 0)),
 p (.mov (.v 5)),
 p (.iad 1 (.r 1) (.r 0)),
 p (.load (none) (.r 0)),
 p (.call false (.r 4) [.r 0])] [(0, .v 0), (1, .v 1), (5, .v 5), (7, .v 7), (8, .v 8), (16, .r 0)])
 (.cond (.v 16)
 (.seq
 (.reg false [p (.mov (.v 5)),
 p (.mov (.r 0))] [(4, .r 0)])
 .ret)
 .skip))))
 (.reg false [p (.bin .add (.v 8) (.k (.int .i64 1))),
 p (.mov (.r 0))] [(0, .v 0), (1, .v 1), (7, .v 7), (8, .r 0)])))))))
 (.frz
 (.seq
 (.reg false [p (.mov (.k (.int .i64 (-1))))] [(4, .r 0)])
 .ret))))
def r52 : List RV := [.t 4]
theorem chk52 : Chk Try.prog Try.f52 c52 r52 := ⟨_, rfl, by kernel_rfl, by kernel_rfl⟩
theorem ena52 : EnA Try.prog 52 19 c52 r52 := mkEnA (by kernel_rfl) Try.func52 (by kernel_rfl) chk52
theorem en52 : EnP Try.prog 52 19 c52 r52 := mkEnP (by kernel_rfl) Try.func52 (by kernel_rfl) chk52

/-- `slices.ContainsFunc[[][]bool,[]bool]` -/
def c45 : C :=
  (.seq
 (.reg false [p (.mov (.k (.bool false)))] [(0, .v 0), (1, .v 1)])
 (.seq
 (.reg false [p (.mov (.v 0)),
 p (.mov (.v 1)),
 p (.call false (.k (.fn 52 [] [])) [.r 1, .r 0]),
 p (.bin .geq (.r 0) (.k (.int .i64 0))),
 p (.mov (.r 0))] [(4, .r 0)])
 .ret))
def r45 : List RV := [.t 4]
theorem chk45 : Chk Try.prog Try.f45 c45 r45 := ⟨_, rfl, by kernel_rfl, by kernel_rfl⟩
theorem ena45 : EnA Try.prog 45 9 c45 r45 := mkEnA (by kernel_rfl) Try.func45 (by kernel_rfl) chk45
theorem en45 : EnP Try.prog 45 9 c45 r45 := mkEnP (by kernel_rfl) Try.func45 (by kernel_rfl) chk45

/-- `penelope/bits.First$1` -/
def c46 : C :=
  (.seq
 (.reg false [p (.mov (.k (.bool false)))] [(0, .v 0), (1, .v 1)])
 (.seq
 (.reg false [p (.mov (.v 0)),
 p (.load (none) (.v 1)),
 p (.call true (.k (.fn 47 [] [])) [.r 1, .r 0]),
 p (.mov (.r 0))] [(3, .r 0)])
 .ret))
def r46 : List RV := [.t 3]
theorem chk46 : Chk Try.prog Try.f46 c46 r46 := ⟨_, rfl, by kernel_rfl, by kernel_rfl⟩
theorem ena46 : EnA Try.prog 46 7 c46 r46 := mkEnA (by kernel_rfl) Try.func46 (by kernel_rfl) chk46
theorem en46 : EnP Try.prog 46 7 c46 r46 := mkEnP (by kernel_rfl) Try.func46 (by kernel_rfl) chk46

/-- `penelope/bits.at` -/
def c47 : C :=
  (.seq
 (.reg false [p (.mov (.k (.bool false)))] [(0, .v 0), (1, .v 1)])
 (.seq
 (.reg false [p (.mov (.v 1)),
 p (.mov (.v 0)),
 p (.len false (.r 0)),
 p (.bin .lss (.r 2) (.r 0)),
 p (.mov (.r 0)),
 ⟨.mov (.v 0), some (0, true), []⟩,
 ⟨.mov (.v 1), some (1, true), []⟩,
 ⟨.iad 1 (.r 1) (.r 0), some (2, true), []⟩,
 ⟨.load (none) (.r 0), some (3, true), []⟩,
 p (.pick (.r 4) (.r 0) (.k (.bool false))),
 p (.mov (.r 0))] [(4, .r 0)])
 .ret))
def r47 : List RV := [.t 4]
theorem chk47 : Chk Try.prog Try.f47 c47 r47 := ⟨_, rfl, by kernel_rfl, by kernel_rfl⟩
theorem en47 : EnP Try.prog 47 15 c47 r47 := mkEnP (by kernel_rfl) Try.func47 (by kernel_rfl) chk47

/-- `penelope/bits.longest` -/
def c44 : C :=
  (.seq
 (.reg false [p (.mov (.k (.int .i64 0)))] [(0, .v 0)])
 (.seq
 (.reg false [p (.mov (.k (.int .i64 0)))] [(0, .v 0), (3, .r 0)])
 (.seq
 (.seq
 (.reg false [p (.mov (.v 0)),
 p (.len false (.r 0)),
 p (.mov (.k (.int .i64 0)))] [(3, .v 3), (6, .r 2), (7, .r 1), (8, .r 0)])
 (.block 0
 (.loop
 (.seq
 (.reg false [p (.bin .lss (.v 8) (.v 7))] [(3, .v 3), (6, .v 6), (7, .v 7), (8, .v 8), (9, .r 0)])
 (.seq
 (.cond (.v 9)
 .skip
 (.exit 0))
 (.seq
 (.block 1
 (.seq
 (.reg false [p (.iad 1 (.v 6) (.v 8)),
 p (.load (none) (.r 0)),
 p (.mov (.r 0))] [(3, .v 3), (5, .r 0), (6, .v 6), (7, .v 7), (8, .v 8)])
 (.reg false [p (.mov (.v 3)),
 p (.mov (.v 5)),
 p (.len false (.r 0)),
 p (.mnx true (.r 2) [.r 0]),
 p (.mov (.r 0))] [(3, .r 0), (6, .v 6), (7, .v 7), (8, .v 8)])))
 (.reg false [p (.bin .add (.v 8) (.k (.int .i64 1))),
 p (.mov (.r 0))] [(3, .v 3), (6, .v 6), (7, .v 7), (8, .r 0)])))))))
 (.frz
 (.seq
 (.reg false [p (.mov (.v 3)),
 p (.mov (.r 0))] [(2, .r 0)])
 .ret)))))
def r44 : List RV := [.t 2]
theorem chk44 : Chk Try.prog Try.f44 c44 r44 := ⟨_, rfl, by kernel_rfl, by kernel_rfl⟩
theorem en44 : EnP Try.prog 44 18 c44 r44 := mkEnP (by kernel_rfl) Try.func44 (by kernel_rfl) chk44

/-- `penelope/bits.First` -/
def c23 : C :=
  (.seq
 (.reg false [p (.mov (.k (.int .i64 0)))] [(0, .v 0), (1, .v 1)])
 (.seq
 (.seq
 (.reg false [p (.mov (.v 0)),
 p (.mnx true (.r 0) [.k (.int .i64 0)]),
 p (.alloc 1 (.int .i64 0)),
 p (.store (none) (.r 0) (.r 1))] [(1, .v 1), (5, .r 1)])
 (.block 0
 (.loop
 (.seq
 (.seq
 (.reg true [p (.load (none) (.v 5)),
 p (.mov (.v 1)),
 p (.call true (.k (.fn 44 [] [])) [.r 0]),
 p (.bin .lss (.r 2) (.r 0))] [(1, .v 1), (5, .v 5), (11, .r 0)])
 (.cond (.v 11)
 .skip
 (.exit 0)))
 (.seq
 (.block 1
 (.seq
 (.reg false [p (.mov (.v 1)),
 p (.mkf 46 [] [.v 5]),
 p (.call false (.k (.fn 45 [] [])) [.r 1, .r 0]),
 p (.un .not (.r 0))] [(1, .v 1), (5, .v 5), (17, .r 0)])
 (.cond (.v 17)
 (.seq
 (.reg false [p (.load (none) (.v 5)),
 p (.mov (.r 0))] [(4, .r 0)])
 .ret)
 .skip)))
 (.seq
 (.seq
 (.reg false [p (.load (none) (.v 5))] [(1, .v 1), (19, .r 0)])
 (.reg false [p (.alloc 1 (.int .i64 0)),
 p (.store (none) (.r 0) (.v 19))] [(1, .v 1), (5, .r 1)]))
 (.reg false [p (.load (none) (.v 5)),
 p (.bin .add (.r 0) (.k (.int .i64 1))),
 p (.store (none) (.v 5) (.r 0))] [(1, .v 1), (5, .v 5)])))))))
 (.frz
 (.seq
 (.reg false [p (.mov (.k (.int .i64 (-1))))] [(4, .r 0)])
 .ret))))
def r23 : List RV := [.t 4]
theorem chk23 : Chk Try.prog Try.f23 c23 r23 := ⟨_, rfl, by kernel_rfl, by kernel_rfl⟩
theorem en23 : EnP Try.prog 23 20 c23 r23 := mkEnP (by kernel_rfl) Try.func23 (by kernel_rfl) chk23

/-- `penelope/bits.Count$1` -/
def c48 : C :=
  (.seq
 (.reg false [p (.mov (.k (.bool false)))] [(0, .v 0), (1, .v 1)])
 (.seq
 (.reg false [p (.mov (.v 0)),
 p (.load (none) (.v 1)),
 p (.call true (.k (.fn 47 [] [])) [.r 1, .r 0]),
 p (.un .not (.r 0)),
 p (.mov (.r 0))] [(3, .r 0)])
 .ret))
def r48 : List RV := [.t 3]
theorem chk48 : Chk Try.prog Try.f48 c48 r48 := ⟨_, rfl, by kernel_rfl, by kernel_rfl⟩
theorem ena48 : EnA Try.prog 48 8 c48 r48 := mkEnA (by kernel_rfl) Try.func48 (by kernel_rfl) chk48
theorem en48 : EnP Try.prog 48 8 c48 r48 := mkEnP (by kernel_rfl) Try.func48 (by kernel_rfl) chk48

/-- `penelope/bits.Count` -/
def c25 : C :=
  (.seq
 (.reg false [p (.mov (.k (.int .i64 0)))] [(0, .v 0)])
 (.seq
 (.reg false [p (.mov (.k (.int .i64 0)))] [(0, .v 0), (3, .r 0)])
 (.seq
 (.seq
 (.reg false [p (.mov (.v 0)),
 p (.call true (.k (.fn 44 [] [])) [.r 0]),
 p (.mov (.k (.int .i64 0)))] [(0, .v 0), (3, .v 3), (6, .r 1), (7, .r 0)])
 (.block 0
 (.loop
 (.seq
 (.reg false [p (.bin .lss (.v 7) (.v 6))] [(0, .v 0), (3, .v 3), (6, .v 6), (7, .v 7), (8, .r 0)])
 (.seq
 (.cond (.v 8)
 .skip
 (.exit 0))
 (.seq
 (.block 1
 (.seq
 (.reg false [p (.mov (.v 7)),
 p (.alloc 1 (.int .i64 0)),
 p (.store (none) (.r 0) (.r 1))] [(0, .v 0), (3, .v 3), (4, .r 1), (6, .v 6), (7, .v 7)])
 (.seq
 (.reg false [p (.mov (.v 0)),
 p (.mkf 48 [] [.v 4]),
 p (.call false (.k (.fn 45 [] [])) [.r 1, .r 0]),
 p (.un .not (.r 0))] [(0, .v 0), (3, .v 3), (6, .v 6), (7, .v 7), (13, .r 0)])
 (.cond (.v 13)
 (.reg false [p (.mov (.v 3)),
 p (.bin .add (.r 0) (.k (.int .i64 1))),
 p (.mov (.r 0))] [(0, .v 0), (3, .r 0), (6, .v 6), (7, .v 7)])
 .skip))))
 (.reg false [p (.bin .add (.v 7) (.k (.int .i64 1))),
 p (.mov (.r 0))] [(0, .v 0), (3, .v 3), (6, .v 6), (7, .r 0)])))))))
 (.frz
 (.seq
 (.reg false [p (.mov (.v 3)),
 p (.mov (.r 0))] [(2, .r 0)])
 .ret)))))
def r25 : List RV := [.t 2]
theorem chk25 : Chk Try.prog Try.f25 c25 r25 := ⟨_, rfl, by kernel_rfl, by kernel_rfl⟩
theorem en25 : EnP Try.prog 25 18 c25 r25 := mkEnP (by kernel_rfl) Try.func25 (by kernel_rfl) chk25

/-- `penelope/penelopelaw05.BitsFirst$1` -/
def c24 : C :=
  (.seq
 (.reg false [p (.mov (.k (.bool false)))] [(0, .v 0), (1, .v 1)])
 (.seq
 (.reg false [p (.load (none) (.v 1)),
 p (.mov (.v 0)),
 p (.len false (.r 0)),
 p (.bin .geq (.r 2) (.r 0)),
 p (.mov (.r 0)),
 ⟨.mov (.v 0), some (0, false), []⟩,
 ⟨.load (none) (.v 1), some (1, false), []⟩,
 ⟨.iad 1 (.r 1) (.r 0), some (2, false), []⟩,
 ⟨.load (none) (.r 0), some (3, false), []⟩,
 ⟨.un .not (.r 0), some (4, false), []⟩,
 p (.pick (.r 5) (.k (.bool true)) (.r 0)),
 p (.mov (.r 0))] [(3, .r 0)])
 .ret))
def r24 : List RV := [.t 3]
theorem chk24 : Chk Try.prog Try.f24 c24 r24 := ⟨_, rfl, by kernel_rfl, by kernel_rfl⟩
theorem ena24 : EnA Try.prog 24 15 c24 r24 := mkEnA (by kernel_rfl) Try.func24 (by kernel_rfl) chk24
theorem en24 : EnP Try.prog 24 15 c24 r24 := mkEnP (by kernel_rfl) Try.func24 (by kernel_rfl) chk24

/-- `penelope/penelopelaw05.BitsFirst` -/
def c6 : C :=
  (.seq
 (.reg false [p (.mov (.k (.bool false)))] [(0, .v 0), (1, .v 1), (2, .v 2), (3, .v 3)])
 (.seq
 (.reg true [p (.mov (.v 0)),
 p (.mov (.v 0)),
 p (.len false (.r 0)),
 p (.mnx false (.r 0) [.k (.int .i64 300)]),
 p (.slc 1 (.r 3) none (some (.r 0)) none),
 p (.mov (.v 1)),
 p (.mov (.v 1)),
 p (.len false (.r 0)),
 p (.mnx false (.r 0) [.k (.int .i64 300)]),
 p (.slc 1 (.r 3) none (some (.r 0)) none),
 p (.mov (.r 5)),
 p (.mov (.r 1))] [(0, .r 1), (1, .r 0), (2, .v 2), (3, .v 3)])
 (.seq
 (.reg false [p (.mov (.v 2)),
 p (.mnx true (.r 0) [.k (.int .i64 0)]),
 p (.mnx false (.r 0) [.k (.int .i64 400)]),
 p (.mov (.v 3)),
 p (.mnx true (.r 0) [.k (.int .i64 0)]),
 p (.mnx false (.r 0) [.k (.int .i64 400)]),
 p (.mov (.r 3)),
 p (.mov (.r 1))] [(0, .v 0), (1, .v 1), (2, .r 1), (3, .r 0)])
 (.seq
 (.reg false [p (.mov (.v 2)),
 p (.mov (.v 0)),
 p (.mov (.v 1)),
 p (.bsl 1 [.r 1, .r 0]),
 p (.call true (.k (.fn 23 [] [])) [.r 3, .r 0]),
 p (.mov (.v 2)),
 p (.mov (.v 3)),
 p (.bin .add (.r 1) (.r 0)),
 p (.mov (.v 0)),
 p (.mov (.v 1)),
 p (.bsl 1 [.r 1, .r 0]),
 p (.call true (.k (.fn 23 [] [])) [.r 3, .r 0]),
 p (.alloc 1 (.int .i64 0)),
 p (.store (none) (.r 0) (.r 8)),
 p (.mov (.r 2))] [(0, .v 0), (1, .v 1), (2, .v 2), (9, .r 2), (10, .r 0)])
 (.seq
 (.seq
 (.reg false [p (.load (none) (.v 9)),
 p (.bin .eql (.r 0) (.k (.int .i64 (-1))))] [(0, .v 0), (1, .v 1), (2, .v 2), (9, .v 9), (10, .v 10), (41, .r 0)])
 (.cond (.v 41)
 (.seq
 (.reg false [p (.call true (.k (.fn 17 [] [])) []),
 p (.mov (.r 0)),
 ⟨.mov (.v 10), some (0, true), []⟩,
 ⟨.bin .eql (.r 0) (.k (.int .i64 (-1))), some (1, true), []⟩,
 p (.pick (.r 2) (.r 0) (.k (.bool false))),
 p (.mov (.r 0))] [(8, .r 0)])
 .ret)
 .skip))
 (.seq
 (.reg false [p (.mkf 24 [] [.v 9]),
 p (.mov (.r 0))] [(0, .v 0), (1, .v 1), (2, .v 2), (9, .v 9), (10, .v 10), (11, .r 0)])
 (.seq
 (.reg true [p (.call true (.k (.fn 17 [] [])) []),
 p (.mov (.r 0)),
 ⟨.load (none) (.v 9), some (0, true), []⟩,
 ⟨.mov (.v 2), some (1, true), []⟩,
 ⟨.bin .geq (.r 1) (.r 0), some (2, true), []⟩,
 p (.pick (.r 3) (.r 0) (.k (.bool false))),
 p (.mov (.r 0)),
 ⟨.load (none) (.v 9), some (0, true), []⟩,
 ⟨.mov (.v 0), some (1, true), []⟩,
 ⟨.len false (.r 0), some (2, true), []⟩,
 ⟨.mov (.v 1), some (3, true), []⟩,
 ⟨.len false (.r 0), some (4, true), []⟩,
 ⟨.mnx true (.r 2) [.r 0], some (5, true), []⟩,
 ⟨.bin .lss (.r 5) (.r 0), some (6, true), []⟩,
 p (.pick (.r 7) (.r 0) (.k (.bool false))),
 p (.mov (.r 0)),
 ⟨.mov (.v 11), some (0, true), []⟩,
 ⟨.mov (.v 0), some (1, true), []⟩,
 ⟨.call false (.r 1) [.r 0], some (2, true), [15, 10]⟩,
 p (.pick (.r 3) (.r 0) (.k (.bool false))),
 p (.mov (.r 0)),
 ⟨.mov (.v 11), some (0, true), []⟩,
 ⟨.mov (.v 1), some (1, true), []⟩,
 ⟨.call false (.r 1) [.r 0], some (2, true), [20, 15, 4]⟩,
 p (.pick (.r 3) (.r 0) (.k (.bool false))),
 p (.mov (.r 0)),
 ⟨.mov (.v 10), some (0, true), []⟩,
 ⟨.bin .eql (.r 0) (.k (.int .i64 (-1))), some (1, true), []⟩,
 ⟨.mov (.r 0), some (2, true), []⟩,
 ⟨.mov (.v 10), some (0, false), []⟩,
 ⟨.load (none) (.v 9), some (1, false), [11, 6]⟩,
 ⟨.bin .geq (.r 1) (.r 0), some (2, false), []⟩,
 ⟨.pick (.r 3) (.k (.bool true)) (.r 0), some (6, true), []⟩,
 p (.pick (.r 7) (.r 0) (.k (.bool false))),
 p (.mov (.r 0)),
 ⟨.load (none) (.v 9), some (0, true), [16, 11]⟩,
 ⟨.mov (.v 0), some (1, true), []⟩,
 ⟨.mov (.v 1), some (2, true), []⟩,
 ⟨.bsl 1 [.r 1, .r 0], some (3, true), []⟩,
 ⟨.call true (.k (.fn 23 [] [])) [.r 3, .r 0], some (4, true), []⟩,
 ⟨.load (none) (.v 9), some (5, true), [21, 16]⟩,
 ⟨.bin .eql (.r 1) (.r 0), some (6, true), []⟩,
 p (.pick (.r 7) (.r 0) (.k (.bool false))),
 p (.mov (.r 0)),
 ⟨.mov (.v 2), some (0, true), []⟩,
 ⟨.mov (.v 1), some (1, true), []⟩,
 ⟨.mov (.v 0), some (2, true), []⟩,
 ⟨.bsl 1 [.r 1, .r 0], some (3, true), []⟩,
 ⟨.call true (.k (.fn 23 [] [])) [.r 3, .r 0], some (4, true), []⟩,
 ⟨.load (none) (.v 9), some (5, true), [30, 25]⟩,
 ⟨.bin .eql (.r 1) (.r 0), some (6, true), []⟩,
 p (.pick (.r 7) (.r 0) (.k (.bool false))),
 p (.mov (.r 0))] [(8, .r 0)])
 .ret)))))))
def r6 : List RV := [.t 8]
theorem chk6 : Chk Try.prog Try.f6 c6 r6 := ⟨_, rfl, by kernel_rfl, by kernel_rfl⟩
theorem en6 : EnP Try.prog 6 100 c6 r6 := mkEnP (by kernel_rfl) Try.func6 (by kernel_rfl) chk6

/-- `penelope/penelopelaw05.BitsFinds` -/
def c7 : C :=
  (.seq
 (.reg false [p (.mov (.k (.bool false)))] [(0, .v 0), (1, .v 1)])
 (.seq
 (.reg false [p (.bsl 1 []),
 p (.mov (.v 0)),
 p (.mov (.v 0)),
 p (.len false (.r 0)),
 p (.mnx false (.r 0) [.k (.int .i64 5)]),
 p (.slc 1 (.r 3) none (some (.r 0)) none),
 p (.app 1 24 (.r 5) (.r 0)),
 p (.mov (.r 0))] [(0, .r 0), (1, .v 1)])
 (.seq
 (.seq
 (.reg false [p (.mov (.v 0)),
 p (.len false (.r 0)),
 p (.mov (.k (.int .i64 0)))] [(0, .v 0), (1, .v 1), (14, .r 1), (15, .r 0)])
 (.block 0
 (.loop
 (.seq
 (.reg false [p (.bin .lss (.v 15) (.v 14))] [(0, .v 0), (1, .v 1), (14, .v 14), (15, .v 15), (16, .r 0)])
 (.seq
 (.cond (.v 16)
 .skip
 (.exit 0))
 (.seq
 (.block 1
 (.seq
 (.reg false [p (.mov (.v 15)),
 p (.mov (.r 0))] [(0, .v 0), (1, .v 1), (5, .r 0), (14, .v 14), (15, .v 15)])
 (.reg true [p (.mov (.v 0)),
 p (.mov (.v 5)),
 p (.mov (.v 0)),
 p (.mov (.v 5)),
 p (.iad 1 (.r 1) (.r 0)),
 p (.load (none) (.r 0)),
 p (.mov (.v 0)),
 p (.mov (.v 5)),
 p (.iad 1 (.r 1) (.r 0)),
 p (.load (none) (.r 0)),
 p (.len false (.r 0)),
 p (.mnx false (.r 0) [.k (.int .i64 300)]),
 p (.slc 1 (.r 6) none (some (.r 0)) none),
 p (.iad 1 (.r 12) (.r 11)),
 p (.store (none) (.r 0) (.r 1))] [(0, .v 0), (1, .v 1), (14, .v 14), (15, .v 15)])))
 (.reg false [p (.bin .add (.v 15) (.k (.int .i64 1))),
 p (.mov (.r 0))] [(0, .v 0), (1, .v 1), (14, .v 14), (15, .r 0)])))))))
 (.frz
 (.seq
 (.reg false [p (.call true (.k (.fn 17 [] [])) []),
 p (.mov (.r 0)),
 ⟨.mov (.v 0), some (0, true), []⟩,
 ⟨.call true (.k (.fn 25 [] [])) [.r 0], some (1, true), []⟩,
 ⟨.mov (.v 0), some (2, true), []⟩,
 ⟨.call true (.k (.fn 26 [] [])) [.r 0], some (3, true), []⟩,
 ⟨.bin .eql (.r 2) (.r 0), some (4, true), []⟩,
 p (.pick (.r 5) (.r 0) (.k (.bool false))),
 p (.mov (.r 0)),
 ⟨.mov (.v 1), some (0, true), []⟩,
 ⟨.mov (.v 0), some (1, true), []⟩,
 ⟨.call true (.k (.fn 23 [] [])) [.r 1, .r 0], some (2, true), []⟩,
 ⟨.mov (.v 1), some (3, true), []⟩,
 ⟨.mov (.v 0), some (4, true), []⟩,
 ⟨.call true (.k (.fn 27 [] [])) [.r 1, .r 0], some (5, true), []⟩,
 ⟨.bin .eql (.r 3) (.r 0), some (6, true), []⟩,
 p (.pick (.r 7) (.r 0) (.k (.bool false))),
 p (.mov (.r 0))] [(4, .r 0)])
 .ret)))))
def r7 : List RV := [.t 4]
theorem chk7 : Chk Try.prog Try.f7 c7 r7 := ⟨_, rfl, by kernel_rfl, by kernel_rfl⟩
theorem en7 : EnP Try.prog 7 50 c7 r7 := mkEnP (by kernel_rfl) Try.func7 (by kernel_rfl) chk7

/-- `penelope/penelopelaw05.BitsCounts` -/
def c8 : C :=
  (.seq
 (.reg false [p (.mov (.k (.bool false)))] [(0, .v 0), (1, .v 1)])
 (.seq
 (.reg false [p (.mov (.v 0)),
 p (.mov (.v 0)),
 p (.len false (.r 0)),
 p (.mnx false (.r 0) [.k (.int .i64 300)]),
 p (.slc 1 (.r 3) none (some (.r 0)) none),
 p (.mov (.r 0))] [(0, .r 0), (1, .v 1)])
 (.seq
 (.reg false [p (.mov (.v 0)),
 p (.bsl 1 [.r 0]),
 p (.call true (.k (.fn 25 [] [])) [.r 0]),
 p (.mov (.r 0))] [(0, .v 0), (1, .v 1), (5, .r 0)])
 (.seq
 (.reg false [p (.mov (.v 0)),
 p (.bsl 1 [.r 0]),
 p (.call true (.k (.fn 23 [] [])) [.k (.int .i64 0), .r 0]),
 p (.mov (.r 0))] [(0, .v 0), (1, .v 1), (5, .v 5), (6, .r 0)])
 (.seq
 (.seq
 (.reg false [p (.mov (.v 0)),
 p (.len false (.r 0)),
 p (.bin .eql (.r 0) (.k (.int .i64 0)))] [(0, .v 0), (1, .v 1), (5, .v 5), (6, .v 6), (26, .r 0)])
 (.cond (.v 26)
 (.seq
 (.reg false [p (.call true (.k (.fn 17 [] [])) []),
 p (.mov (.r 0)),
 ⟨.mov (.v 5), some (0, true), []⟩,
 ⟨.bin .eql (.r 0) (.k (.int .i64 0)), some (1, true), []⟩,
 p (.pick (.r 2) (.r 0) (.k (.bool false))),
 p (.mov (.r 0)),
 ⟨.mov (.v 6), some (0, true), []⟩,
 ⟨.bin .eql (.r 0) (.k (.int .i64 (-1))), some (1, true), []⟩,
 p (.pick (.r 2) (.r 0) (.k (.bool false))),
 p (.mov (.r 0))] [(4, .r 0)])
 .ret)
 .skip))
 (.seq
 (.reg false [p (.mov (.v 1)),
 p (.mov (.v 0)),
 p (.len false (.r 0)),
 p (.bin .rem (.r 2) (.r 0)),
 p (.mov (.v 0)),
 p (.len false (.r 0)),
 p (.bin .add (.r 2) (.r 0)),
 p (.mov (.v 0)),
 p (.len false (.r 0)),
 p (.bin .rem (.r 2) (.r 0)),
 p (.mov (.r 0))] [(0, .v 0), (1, .r 0), (5, .v 5), (6, .v 6)])
 (.seq
 (.reg false [p (.mov (.v 0)),
 p (.mov (.v 1)),
 p (.bsl 1 [.r 0]),
 p (.call true (.k (.fn 21 [] [])) [.r 2, .k (.bool true), .r 0]),
 p (.mov (.r 0)),
 p (.ext (.r 0) 0),
 p (.ext (.r 1) 1),
 p (.mov (.r 1)),
 p (.mov (.r 1))] [(0, .v 0), (1, .v 1), (5, .v 5), (6, .v 6), (7, .r 1), (8, .r 0)])
 (.seq
 (.reg false [p (.mov (.v 0)),
 p (.mov (.v 1)),
 p (.bsl 1 [.r 0]),
 p (.call true (.k (.fn 21 [] [])) [.r 2, .k (.bool false), .r 0]),
 p (.mov (.r 0)),
 p (.ext (.r 0) 0),
 p (.ext (.r 1) 1),
 p (.mov (.r 1)),
 p (.mov (.r 1))] [(0, .v 0), (5, .v 5), (6, .v 6), (7, .v 7), (8, .v 8), (9, .r 1), (10, .r 0)])
 (.seq
 (.seq
 (.reg false [p (.mov (.v 8)),
 p (.bin .neq (.r 0) (.k (.int .i64 0))),
 p (.mov (.r 0)),
 ⟨.mov (.v 10), some (0, false), []⟩,
 ⟨.bin .neq (.r 0) (.k (.int .i64 0)), some (1, false), []⟩,
 p (.pick (.r 2) (.k (.bool true)) (.r 0)),
 p (.mov (.r 0)),
 ⟨.mov (.v 7), some (0, false), []⟩,
 ⟨.bsl 1 [.r 0], some (1, false), []⟩,
 ⟨.call true (.k (.fn 25 [] [])) [.r 0], some (2, false), []⟩,
 ⟨.mov (.v 9), some (3, false), []⟩,
 ⟨.bsl 1 [.r 0], some (4, false), []⟩,
 ⟨.call true (.k (.fn 25 [] [])) [.r 0], some (5, false), []⟩,
 ⟨.bin .add (.r 0) (.k (.int .i64 1)), some (6, false), []⟩,
 ⟨.bin .neq (.r 4) (.r 0), some (7, false), []⟩,
 p (.pick (.r 8) (.k (.bool true)) (.r 0)),
 p (.mov (.r 0)),
 ⟨.mov (.v 0), some (0, false), []⟩,
 ⟨.mov (.v 9), some (1, false), []⟩,
 ⟨.bsl 1 [.r 1, .r 0], some (2, false), []⟩,
 ⟨.call true (.k (.fn 25 [] [])) [.r 0], some (3, false), []⟩,
 ⟨.mov (.v 9), some (4, false), []⟩,
 ⟨.bsl 1 [.r 0], some (5, false), []⟩,
 ⟨.call true (.k (.fn 25 [] [])) [.r 0], some (6, false), []⟩,
 ⟨.bin .neq (.r 3) (.r 0), some (7, false), []⟩,
 p (.pick (.r 8) (.k (.bool true)) (.r 0)),
 p (.mov (.r 0)),
 ⟨.call true (.k (.fn 17 [] [])) [], some (0, false), []⟩,
 ⟨.un .not (.r 0), some (1, false), []⟩,
 p (.pick (.r 2) (.k (.bool true)) (.r 0))] [(0, .v 0), (5, .v 5), (6, .v 6), (89, .r 0)])
 (.cond (.v 89)
 (.seq
 (.reg false [p (.mov (.k (.bool false)))] [(4, .r 0)])
 .ret)
 .skip))
 (.seq
 (.seq
 (.reg false [p (.mov (.v 0)),
 p (.len false (.r 0)),
 p (.mov (.k (.int .i64 0)))] [(0, .v 0), (5, .v 5), (6, .v 6), (90, .r 2), (91, .r 1), (92, .r 0)])
 (.block 0
 (.loop
 (.seq
 (.reg false [p (.bin .lss (.v 92) (.v 91))] [(0, .v 0), (5, .v 5), (6, .v 6), (90, .v 90), (91, .v 91), (92, .v 92), (93, .r 0)])
 (.seq
 (.cond (.v 93)
 .skip
 (.exit 0))
 (.seq
 (.block 1
 (.seq
 (.reg false [p (.mov (.v 92)),
 p (.iad 1 (.v 90) (.v 92)),
 p (.load (none) (.r 0)),
 p (.mov (.r 2)),
 p (.mov (.r 1))] [(0, .v 0), (5, .v 5), (6, .v 6), (11, .r 1), (12, .r 0), (90, .v 90), (91, .v 91), (92, .v 92)])
 (.seq
 (.reg false [p (.mov (.v 12)),
 p (.un .not (.r 0))] [(0, .v 0), (5, .v 5), (6, .v 6), (11, .v 11), (90, .v 90), (91, .v 91), (92, .v 92), (98, .r 0)])
 (.cond (.v 98)
 (.seq
 (.reg false [p (.mov (.v 6)),
 p (.mov (.v 11)),
 p (.bin .eql (.r 1) (.r 0)),
 p (.mov (.r 0))] [(4, .r 0)])
 .ret)
 .skip))))
 (.reg false [p (.bin .add (.v 92) (.k (.int .i64 1))),
 p (.mov (.r 0))] [(0, .v 0), (5, .v 5), (6, .v 6), (90, .v 90), (91, .v 91), (92, .r 0)])))))))
 (.frz
 (.seq
 (.reg false [p (.mov (.v 6)),
 p (.bin .eql (.r 0) (.k (.int .i64 (-1)))),
 p (.mov (.r 0)),
 ⟨.mov (.v 5), some (0, true), []⟩,
 ⟨.mov (.v 0), some (1, true), []⟩,
 ⟨.len false (.r 0), some (2, true), []⟩,
 ⟨.bin .eql (.r 2) (.r 0), some (3, true), []⟩,
 p (.pick (.r 4) (.r 0) (.k (.bool false))),
 p (.mov (.r 0))] [(4, .r 0)])
 .ret))))))))))))
def r8 : List RV := [.t 4]
theorem chk8 : Chk Try.prog Try.f8 c8 r8 := ⟨_, rfl, by kernel_rfl, by kernel_rfl⟩
theorem en8 : EnP Try.prog 8 111 c8 r8 := mkEnP (by kernel_rfl) Try.func8 (by kernel_rfl) chk8

/-- `penelope/peneloperef05.Count` -/
def c26 : C :=
  (.seq
 (.reg false [p (.mov (.k (.int .i64 0)))] [(0, .v 0)])
 (.seq
 (.reg false [p (.mov (.k (.int .i64 0)))] [(0, .v 0), (3, .r 0)])
 (.seq
 (.seq
 (.reg false [p (.mov (.k (.int .i64 0)))] [(0, .v 0), (3, .v 3), (4, .r 0)])
 (.block 0
 (.loop
 (.seq
 (.seq
 (.reg false [p (.mov (.v 4)),
 p (.mov (.v 0)),
 p (.call true (.k (.fn 49 [] [])) [.r 0]),
 p (.bin .lss (.r 2) (.r 0))] [(0, .v 0), (3, .v 3), (4, .v 4), (8, .r 0)])
 (.cond (.v 8)
 .skip
 (.exit 0)))
 (.seq
 (.block 1
 (.seq
 (.reg false [p (.mov (.v 0)),
 p (.mov (.v 4)),
 p (.call true (.k (.fn 50 [] [])) [.r 1, .r 0]),
 p (.mov (.v 0)),
 p (.len false (.r 0)),
 p (.bin .eql (.r 2) (.r 0))] [(0, .v 0), (3, .v 3), (4, .v 4), (16, .r 0)])
 (.cond (.v 16)
 (.reg false [p (.mov (.v 3)),
 p (.bin .add (.r 0) (.k (.int .i64 1))),
 p (.mov (.r 0))] [(0, .v 0), (3, .r 0), (4, .v 4)])
 .skip)))
 (.reg false [p (.mov (.v 4)),
 p (.bin .add (.r 0) (.k (.int .i64 1))),
 p (.mov (.r 0))] [(0, .v 0), (3, .v 3), (4, .r 0)]))))))
 (.frz
 (.seq
 (.reg false [p (.mov (.v 3)),
 p (.mov (.r 0))] [(2, .r 0)])
 .ret)))))
def r26 : List RV := [.t 2]
theorem chk26 : Chk Try.prog Try.f26 c26 r26 := ⟨_, rfl, by kernel_rfl, by kernel_rfl⟩
theorem en26 : EnP Try.prog 26 20 c26 r26 := mkEnP (by kernel_rfl) Try.func26 (by kernel_rfl) chk26

/-- `penelope/peneloperef05.First` -/
def c27 : C :=
  (.seq
 (.reg false [p (.mov (.k (.int .i64 0)))] [(0, .v 0), (1, .v 1)])
 (.seq
 (.seq
 (.reg false [p (.mov (.k (.int .i64 0)))] [(0, .v 0), (1, .v 1), (5, .r 0)])
 (.block 0
 (.loop
 (.seq
 (.seq
 (.reg false [p (.mov (.v 5)),
 p (.mov (.v 1)),
 p (.call true (.k (.fn 49 [] [])) [.r 0]),
 p (.bin .lss (.r 2) (.r 0))] [(0, .v 0), (1, .v 1), (5, .v 5), (9, .r 0)])
 (.cond (.v 9)
 .skip
 (.exit 0)))
 (.seq
 (.block 1
 (.seq
 (.reg false [p (.mov (.v 5)),
 p (.mov (.v 0)),
 p (.bin .geq (.r 1) (.r 0)),
 p (.mov (.r 0)),
 ⟨.mov (.v 1), some (0, true), []⟩,
 ⟨.mov (.v 5), some (1, true), []⟩,
 ⟨.call true (.k (.fn 50 [] [])) [.r 1, .r 0], some (2, true), []⟩,
 ⟨.bin .eql (.r 0) (.k (.int .i64 0)), some (3, true), []⟩,
 p (.pick (.r 4) (.r 0) (.k (.bool false)))] [(0, .v 0), (1, .v 1), (5, .v 5), (20, .r 0)])
 (.cond (.v 20)
 (.seq
 (.reg false [p (.mov (.v 5)),
 p (.mov (.r 0))] [(4, .r 0)])
 .ret)
 .skip)))
 (.reg false [p (.mov (.v 5)),
 p (.bin .add (.r 0) (.k (.int .i64 1))),
 p (.mov (.r 0))] [(0, .v 0), (1, .v 1), (5, .r 0)]))))))
 (.frz
 (.seq
 (.reg false [p (.mov (.k (.int .i64 (-1))))] [(4, .r 0)])
 .ret))))
def r27 : List RV := [.t 4]
theorem chk27 : Chk Try.prog Try.f27 c27 r27 := ⟨_, rfl, by kernel_rfl, by kernel_rfl⟩
theorem en27 : EnP Try.prog 27 22 c27 r27 := mkEnP (by kernel_rfl) Try.func27 (by kernel_rfl) chk27

/-- `penelope/peneloperef05.Longest` -/
def c49 : C :=
  (.seq
 (.reg false [p (.mov (.k (.int .i64 0)))] [(0, .v 0)])
 (.seq
 (.reg false [p (.mov (.k (.int .i64 0)))] [(0, .v 0), (3, .r 0)])
 (.seq
 (.seq
 (.reg false [p (.mov (.v 0)),
 p (.len false (.r 0)),
 p (.mov (.k (.int .i64 0)))] [(3, .v 3), (6, .r 2), (7, .r 1), (8, .r 0)])
 (.block 0
 (.loop
 (.seq
 (.reg false [p (.bin .lss (.v 8) (.v 7))] [(3, .v 3), (6, .v 6), (7, .v 7), (8, .v 8), (9, .r 0)])
 (.seq
 (.cond (.v 9)
 .skip
 (.exit 0))
 (.seq
 (.block 1
 (.seq
 (.reg false [p (.iad 1 (.v 6) (.v 8)),
 p (.load (none) (.r 0)),
 p (.mov (.r 0))] [(3, .v 3), (5, .r 0), (6, .v 6), (7, .v 7), (8, .v 8)])
 (.seq
 (.reg false [p (.mov (.v 5)),
 p (.len false (.r 0)),
 p (.mov (.v 3)),
 p (.bin .gtr (.r 1) (.r 0))] [(3, .v 3), (5, .v 5), (6, .v 6), (7, .v 7), (8, .v 8), (15, .r 0)])
 (.cond (.v 15)
 (.reg false [p (.mov (.v 5)),
 p (.len false (.r 0)),
 p (.mov (.r 0))] [(3, .r 0), (6, .v 6), (7, .v 7), (8, .v 8)])
 .skip))))
 (.reg false [p (.bin .add (.v 8) (.k (.int .i64 1))),
 p (.mov (.r 0))] [(3, .v 3), (6, .v 6), (7, .v 7), (8, .r 0)])))))))
 (.frz
 (.seq
 (.reg false [p (.mov (.v 3)),
 p (.mov (.r 0))] [(2, .r 0)])
 .ret)))))
def r49 : List RV := [.t 2]
theorem chk49 : Chk Try.prog Try.f49 c49 r49 := ⟨_, rfl, by kernel_rfl, by kernel_rfl⟩
theorem en49 : EnP Try.prog 49 20 c49 r49 := mkEnP (by kernel_rfl) Try.func49 (by kernel_rfl) chk49

/-- `penelope/peneloperef05.How` -/
def c50 : C :=
  (.seq
 (.reg false [p (.mov (.k (.int .i64 0)))] [(0, .v 0), (1, .v 1)])
 (.seq
 (.reg false [p (.mov (.k (.int .i64 0)))] [(0, .v 0), (1, .v 1), (5, .r 0)])
 (.seq
 (.seq
 (.reg false [p (.mov (.v 0)),
 p (.len false (.r 0)),
 p (.mov (.k (.int .i64 0)))] [(1, .v 1), (5, .v 5), (8, .r 2), (9, .r 1), (10, .r 0)])
 (.block 0
 (.loop
 (.seq
 (.reg false [p (.bin .lss (.v 10) (.v 9))] [(1, .v 1), (5, .v 5), (8, .v 8), (9, .v 9), (10, .v 10), (11, .r 0)])
 (.seq
 (.cond (.v 11)
 .skip
 (.exit 0))
 (.seq
 (.block 1
 (.seq
 (.reg false [p (.iad 1 (.v 8) (.v 10)),
 p (.load (none) (.r 0)),
 p (.mov (.r 0))] [(1, .v 1), (5, .v 5), (7, .r 0), (8, .v 8), (9, .v 9), (10, .v 10)])
 (.seq
 (.reg false [p (.mov (.v 7)),
 p (.mov (.v 1)),
 p (.call true (.k (.fn 42 [] [])) [.r 1, .r 0])] [(1, .v 1), (5, .v 5), (8, .v 8), (9, .v 9), (10, .v 10), (16, .r 0)])
 (.cond (.v 16)
 (.reg false [p (.mov (.v 5)),
 p (.bin .add (.r 0) (.k (.int .i64 1))),
 p (.mov (.r 0))] [(1, .v 1), (5, .r 0), (8, .v 8), (9, .v 9), (10, .v 10)])
 .skip))))
 (.reg false [p (.bin .add (.v 10) (.k (.int .i64 1))),
 p (.mov (.r 0))] [(1, .v 1), (5, .v 5), (8, .v 8), (9, .v 9), (10, .r 0)])))))))
 (.frz
 (.seq
 (.reg false [p (.mov (.v 5)),
 p (.mov (.r 0))] [(4, .r 0)])
 .ret)))))
def r50 : List RV := [.t 4]
theorem chk50 : Chk Try.prog Try.f50 c50 r50 := ⟨_, rfl, by kernel_rfl, by kernel_rfl⟩
theorem en50 : EnP Try.prog 50 21 c50 r50 := mkEnP (by kernel_rfl) Try.func50 (by kernel_rfl) chk50


end Go.Proofs.Ytickdhdlljhomaa.Ev
