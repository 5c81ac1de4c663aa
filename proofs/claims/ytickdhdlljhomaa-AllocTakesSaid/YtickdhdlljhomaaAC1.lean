/-
  The program's code in compact form, with its checks.
-/
import Derived.Test.YtickdhdlljhomaaBC3
import Derived.Test.YtickdhdlljhomaaProg
import Derived.KernelRfl
set_option linter.unusedSimpArgs false
namespace Go.Proofs.Ytickdhdlljhomaa.Ev
open Go
/-- `penelope/alloc.New` -/
def c28 : C :=
  (.seq
 (.reg false [p (.alloc 2 (.agg [.fsl .nil 1 [], .fsl .nil 1 []])),
 p (.mov (.k (.int .i64 0)))] [(0, .v 0), (2, .r 1)])
 (.seq
 (.seq
 (.reg false [p (.mov (.v 0)),
 p (.bin .lss (.r 0) (.k (.int .i64 24))),
 p (.mov (.r 0)),
 ⟨.mov (.v 0), some (0, false), []⟩,
 ⟨.bin .gtr (.r 0) (.k (.int .i64 2048)), some (1, false), []⟩,
 p (.pick (.r 2) (.k (.bool true)) (.r 0))] [(0, .v 0), (2, .v 2), (11, .r 0)])
 (.cond (.v 11)
 (.seq
 (.reg false [p (.build [.fsl .nil 1 [], .fsl .nil 1 []] []),
 p (.store (some 2) (.v 2) (.r 0)),
 p (.mov (.k (.int .i64 1)))] [(2, .v 2), (3, .r 0)])
 .ret)
 .skip))
 (.seq
 (.reg false [p (.mov (.v 0)),
 p (.mks 1 1 (.bool false) (.r 0)),
 p (.mov (.r 0))] [(2, .v 2), (4, .r 0)])
 (.seq
 (.seq
 (.reg false [p (.mov (.k (.int .i64 0)))] [(2, .v 2), (4, .v 4), (15, .r 0)])
 (.block 0
 (.loop
 (.seq
 (.reg false [p (.bin .lss (.v 15) (.k (.int .i64 10)))] [(2, .v 2), (4, .v 4), (15, .v 15), (16, .r 0)])
 (.seq
 (.cond (.v 16)
 .skip
 (.exit 0))
 (.seq
 (.block 1
 (.seq
 (.reg false [p (.mov (.v 15)),
 p (.mov (.r 0))] [(2, .v 2), (4, .v 4), (5, .r 0), (15, .v 15)])
 (.reg false [p (.mov (.v 4)),
 p (.mov (.v 5)),
 p (.iad 1 (.r 1) (.r 0)),
 p (.store (none) (.r 0) (.k (.bool true)))] [(2, .v 2), (4, .v 4), (15, .v 15)])))
 (.reg false [p (.bin .add (.v 15) (.k (.int .i64 1))),
 p (.mov (.r 0))] [(2, .v 2), (4, .v 4), (15, .r 0)])))))))
 (.frz
 (.seq
 (.reg false [p (.mov (.v 4)),
 p (.mov (.v 4)),
 p (.call false (.k (.fn 43 [] [])) [.r 0]),
 p (.build [.fsl .nil 1 [], .fsl .nil 1 []] [(0, 1, .r 2), (1, 1, .r 0)]),
 p (.store (some 2) (.v 2) (.r 0)),
 p (.mov (.k (.int .i64 0)))] [(2, .v 2), (3, .r 0)])
 .ret))))))
def r28 : List RV := [.c 2 (some 2), .t 3]
theorem chk28 : Chk Try.prog Try.f28 c28 r28 := ⟨_, rfl, by kernel_rfl, by kernel_rfl⟩
theorem en28 : EnP Try.prog 28 26 c28 r28 := mkEnP (by kernel_rfl) Try.func28 (by kernel_rfl) chk28

/-- `penelope/alloc.Right` -/
def c32 : C :=
  (.seq
 (.reg false [p (.box 2 (.v 0)),
 p (.mov (.k (.bool false)))] [(1, .r 1)])
 (.seq
 (.reg false [p (.fad 1 (.v 1)),
 p (.load (none) (.r 0)),
 p (.len false (.r 0)),
 p (.mov (.r 0))] [(1, .v 1), (3, .r 0)])
 (.seq
 (.seq
 (.reg false [p (.fad 0 (.v 1)),
 p (.load (none) (.r 0)),
 p (.len false (.r 0)),
 p (.mov (.v 3)),
 p (.bin .neq (.r 1) (.r 0)),
 p (.mov (.r 0)),
 ⟨.mov (.v 3), some (0, false), []⟩,
 ⟨.bin .lss (.r 0) (.k (.int .i64 24)), some (1, false), []⟩,
 p (.pick (.r 2) (.k (.bool true)) (.r 0)),
 p (.mov (.r 0)),
 ⟨.mov (.v 3), some (0, false), []⟩,
 ⟨.bin .gtr (.r 0) (.k (.int .i64 2048)), some (1, false), []⟩,
 p (.pick (.r 2) (.k (.bool true)) (.r 0))] [(1, .v 1), (19, .r 0)])
 (.cond (.v 19)
 (.seq
 (.reg false [p (.mov (.k (.bool false)))] [(2, .r 0)])
 .ret)
 .skip))
 (.seq
 (.reg true [p (.fad 0 (.v 1)),
 p (.load (none) (.r 0)),
 p (.slc 1 (.r 0) none (some (.k (.int .i64 10))) none),
 p (.fad 1 (.v 1)),
 p (.load (none) (.r 0)),
 p (.slc 1 (.r 0) none (some (.k (.int .i64 10))) none),
 p (.bsl 1 [.r 3, .r 0]),
 p (.call true (.k (.fn 25 [] [])) [.r 0]),
 p (.bin .eql (.r 0) (.k (.int .i64 10))),
 p (.mov (.r 0))] [(2, .r 0)])
 .ret))))
def r32 : List RV := [.t 2]
theorem chk32 : Chk Try.prog Try.f32 c32 r32 := ⟨_, rfl, by kernel_rfl, by kernel_rfl⟩
theorem en32 : EnP Try.prog 32 29 c32 r32 := mkEnP (by kernel_rfl) Try.func32 (by kernel_rfl) chk32

/-- `penelope/alloc.Free` -/
def c34 : C :=
  (.seq
 (.reg false [p (.box 2 (.v 0)),
 p (.mov (.k (.int .i64 0)))] [(1, .r 1)])
 (.seq
 (.seq
 (.reg false [p (.load (some 2) (.v 1)),
 p (.call true (.k (.fn 32 [] [])) [.r 0]),
 p (.un .not (.r 0))] [(1, .v 1), (8, .r 0)])
 (.cond (.v 8)
 (.seq
 (.reg false [p (.mov (.k (.int .i64 0)))] [(2, .r 0)])
 .ret)
 .skip))
 (.seq
 (.reg false [p (.mov (.k (.int .i64 0)))] [(1, .v 1), (3, .r 0)])
 (.seq
 (.seq
 (.reg false [p (.fad 1 (.v 1)),
 p (.load (none) (.r 0)),
 p (.len false (.r 0)),
 p (.mov (.k (.int .i64 0)))] [(1, .v 1), (3, .v 3), (10, .r 2), (11, .r 1), (12, .r 0)])
 (.block 0
 (.loop
 (.seq
 (.reg false [p (.bin .lss (.v 12) (.v 11))] [(1, .v 1), (3, .v 3), (10, .v 10), (11, .v 11), (12, .v 12), (13, .r 0)])
 (.seq
 (.cond (.v 13)
 .skip
 (.exit 0))
 (.seq
 (.block 1
 (.seq
 (.reg false [p (.mov (.v 12)),
 p (.iad 1 (.v 10) (.v 12)),
 p (.load (none) (.r 0)),
 p (.mov (.r 2)),
 p (.mov (.r 1))] [(1, .v 1), (3, .v 3), (4, .r 1), (5, .r 0), (10, .v 10), (11, .v 11), (12, .v 12)])
 (.seq
 (.reg false [p (.mov (.v 5)),
 p (.un .not (.r 0)),
 p (.mov (.r 0)),
 ⟨.fad 0 (.v 1), some (0, true), []⟩,
 ⟨.load (none) (.r 0), some (1, true), []⟩,
 ⟨.mov (.v 4), some (2, true), []⟩,
 ⟨.iad 1 (.r 1) (.r 0), some (3, true), []⟩,
 ⟨.load (none) (.r 0), some (4, true), []⟩,
 ⟨.un .not (.r 0), some (5, true), []⟩,
 p (.pick (.r 6) (.r 0) (.k (.bool false)))] [(1, .v 1), (3, .v 3), (10, .v 10), (11, .v 11), (12, .v 12), (26, .r 0)])
 (.cond (.v 26)
 (.reg false [p (.mov (.v 3)),
 p (.bin .add (.r 0) (.k (.int .i64 1))),
 p (.mov (.r 0))] [(1, .v 1), (3, .r 0), (10, .v 10), (11, .v 11), (12, .v 12)])
 .skip))))
 (.reg false [p (.bin .add (.v 12) (.k (.int .i64 1))),
 p (.mov (.r 0))] [(1, .v 1), (3, .v 3), (10, .v 10), (11, .v 11), (12, .r 0)])))))))
 (.frz
 (.seq
 (.reg false [p (.mov (.v 3)),
 p (.mov (.r 0))] [(2, .r 0)])
 .ret))))))
def r34 : List RV := [.t 2]
theorem chk34 : Chk Try.prog Try.f34 c34 r34 := ⟨_, rfl, by kernel_rfl, by kernel_rfl⟩
theorem en34 : EnP Try.prog 34 31 c34 r34 := mkEnP (by kernel_rfl) Try.func34 (by kernel_rfl) chk34

/-- `penelope/alloc.Take` -/
def c36 : C :=
  (.seq
 (.reg false [p (.box 2 (.v 0)),
 p (.alloc 2 (.agg [.fsl .nil 1 [], .fsl .nil 1 []])),
 p (.mov (.k (.int .i64 0))),
 p (.mov (.k (.int .i64 0)))] [(1, .r 3), (2, .r 2)])
 (.seq
 (.seq
 (.reg false [p (.load (some 2) (.v 1)),
 p (.call true (.k (.fn 32 [] [])) [.r 0]),
 p (.un .not (.r 0))] [(1, .v 1), (2, .v 2), (10, .r 0)])
 (.cond (.v 10)
 (.seq
 (.reg false [p (.build [.fsl .nil 1 [], .fsl .nil 1 []] []),
 p (.store (some 2) (.v 2) (.r 0)),
 p (.mov (.k (.int .i64 0))),
 p (.mov (.k (.int .i64 1)))] [(2, .v 2), (3, .r 1), (4, .r 0)])
 .ret)
 .skip))
 (.seq
 (.reg false [p (.fad 0 (.v 1)),
 p (.load (none) (.r 0)),
 p (.fad 1 (.v 1)),
 p (.load (none) (.r 0)),
 p (.bsl 1 [.r 2, .r 0]),
 p (.call true (.k (.fn 23 [] [])) [.k (.int .i64 0), .r 0]),
 p (.mov (.r 0))] [(1, .v 1), (2, .v 2), (5, .r 0)])
 (.seq
 (.seq
 (.reg false [p (.mov (.v 5)),
 p (.bin .lss (.r 0) (.k (.int .i64 0)))] [(1, .v 1), (2, .v 2), (5, .v 5), (19, .r 0)])
 (.cond (.v 19)
 (.seq
 (.reg false [p (.build [.fsl .nil 1 [], .fsl .nil 1 []] []),
 p (.store (some 2) (.v 2) (.r 0)),
 p (.mov (.k (.int .i64 0))),
 p (.mov (.k (.int .i64 60)))] [(2, .v 2), (3, .r 1), (4, .r 0)])
 .ret)
 .skip))
 (.seq
 (.reg false [p (.fad 1 (.v 1)),
 p (.load (none) (.r 0)),
 p (.mov (.v 5)),
 p (.bsl 1 [.r 0]),
 p (.call true (.k (.fn 21 [] [])) [.r 2, .k (.bool true), .r 0]),
 p (.mov (.r 0)),
 p (.ext (.r 0) 0),
 p (.ext (.r 1) 1),
 p (.mov (.r 1)),
 p (.mov (.r 1))] [(1, .v 1), (2, .v 2), (5, .v 5), (6, .r 1), (7, .r 0)])
 (.seq
 (.reg false [p (.mov (.v 6)),
 p (.fad 1 (.v 1)),
 p (.store (none) (.r 0) (.r 1))] [(1, .v 1), (2, .v 2), (5, .v 5), (7, .v 7)])
 (.seq
 (.reg false [p (.load (some 2) (.v 1)),
 p (.mov (.v 5)),
 p (.mov (.v 7)),
 p (.store (some 2) (.v 2) (.r 2)),
 p (.mov (.r 2)),
 p (.mov (.r 2))] [(2, .v 2), (3, .r 1), (4, .r 0)])
 .ret)))))))
def r36 : List RV := [.c 2 (some 2), .t 3, .t 4]
theorem chk36 : Chk Try.prog Try.f36 c36 r36 := ⟨_, rfl, by kernel_rfl, by kernel_rfl⟩
theorem en36 : EnP Try.prog 36 34 c36 r36 := mkEnP (by kernel_rfl) Try.func36 (by kernel_rfl) chk36

/-- `penelope/alloc.Give` -/
def c37 : C :=
  (.seq
 (.reg false [p (.box 2 (.v 0)),
 p (.alloc 2 (.agg [.fsl .nil 1 [], .fsl .nil 1 []])),
 p (.mov (.k (.int .i64 0)))] [(1, .v 1), (2, .r 2), (4, .r 1)])
 (.seq
 (.seq
 (.reg false [p (.load (some 2) (.v 2)),
 p (.call true (.k (.fn 32 [] [])) [.r 0]),
 p (.un .not (.r 0))] [(1, .v 1), (2, .v 2), (4, .v 4), (11, .r 0)])
 (.cond (.v 11)
 (.seq
 (.reg false [p (.build [.fsl .nil 1 [], .fsl .nil 1 []] []),
 p (.store (some 2) (.v 4) (.r 0)),
 p (.mov (.k (.int .i64 1)))] [(4, .v 4), (5, .r 0)])
 .ret)
 .skip))
 (.seq
 (.reg false [p (.fad 1 (.v 2)),
 p (.load (none) (.r 0)),
 p (.call false (.k (.fn 43 [] [])) [.r 0]),
 p (.mov (.r 0))] [(1, .v 1), (2, .v 2), (4, .v 4), (6, .r 0)])
 (.seq
 (.seq
 (.reg false [p (.mov (.v 1)),
 p (.len false (.r 0)),
 p (.mov (.k (.int .i64 0)))] [(2, .v 2), (4, .v 4), (6, .v 6), (16, .r 2), (17, .r 1), (18, .r 0)])
 (.block 0
 (.loop
 (.seq
 (.reg false [p (.bin .lss (.v 18) (.v 17))] [(2, .v 2), (4, .v 4), (6, .v 6), (16, .v 16), (17, .v 17), (18, .v 18), (19, .r 0)])
 (.seq
 (.cond (.v 19)
 .skip
 (.exit 0))
 (.seq
 (.block 1
 (.seq
 (.reg false [p (.iad 1 (.v 16) (.v 18)),
 p (.load (none) (.r 0)),
 p (.mov (.r 0))] [(2, .v 2), (4, .v 4), (6, .v 6), (8, .r 0), (16, .v 16), (17, .v 17), (18, .v 18)])
 (.seq
 (.seq
 (.reg false [p (.mov (.v 8)),
 p (.bin .lss (.r 0) (.k (.int .i64 10))),
 p (.mov (.r 0)),
 ⟨.mov (.v 8), some (0, false), []⟩,
 ⟨.mov (.v 6), some (1, false), []⟩,
 ⟨.len false (.r 0), some (2, false), []⟩,
 ⟨.bin .geq (.r 2) (.r 0), some (3, false), []⟩,
 p (.pick (.r 4) (.k (.bool true)) (.r 0)),
 p (.mov (.r 0)),
 ⟨.mov (.v 6), some (0, false), []⟩,
 ⟨.mov (.v 8), some (1, false), []⟩,
 ⟨.iad 1 (.r 1) (.r 0), some (2, false), []⟩,
 ⟨.load (none) (.r 0), some (3, false), []⟩,
 ⟨.un .not (.r 0), some (4, false), []⟩,
 p (.pick (.r 5) (.k (.bool true)) (.r 0))] [(2, .v 2), (4, .v 4), (6, .v 6), (8, .v 8), (16, .v 16), (17, .v 17), (18, .v 18), (36, .r 0)])
 (.cond (.v 36)
 (.seq
 (.reg false [p (.build [.fsl .nil 1 [], .fsl .nil 1 []] []),
 p (.store (some 2) (.v 4) (.r 0)),
 p (.mov (.k (.int .i64 30)))] [(4, .v 4), (5, .r 0)])
 .ret)
 .skip))
 (.reg false [p (.mov (.v 6)),
 p (.mov (.v 8)),
 p (.iad 1 (.r 1) (.r 0)),
 p (.store (none) (.r 0) (.k (.bool false)))] [(2, .v 2), (4, .v 4), (6, .v 6), (16, .v 16), (17, .v 17), (18, .v 18)]))))
 (.reg false [p (.bin .add (.v 18) (.k (.int .i64 1))),
 p (.mov (.r 0))] [(2, .v 2), (4, .v 4), (6, .v 6), (16, .v 16), (17, .v 17), (18, .r 0)])))))))
 (.frz
 (.seq
 (.reg false [p (.mov (.v 6)),
 p (.fad 1 (.v 2)),
 p (.store (none) (.r 0) (.r 1))] [(2, .v 2), (4, .v 4)])
 (.seq
 (.reg false [p (.load (some 2) (.v 2)),
 p (.store (some 2) (.v 4) (.r 0)),
 p (.mov (.k (.int .i64 0)))] [(4, .v 4), (5, .r 0)])
 .ret)))))))
def r37 : List RV := [.c 4 (some 2), .t 5]
theorem chk37 : Chk Try.prog Try.f37 c37 r37 := ⟨_, rfl, by kernel_rfl, by kernel_rfl⟩
theorem en37 : EnP Try.prog 37 45 c37 r37 := mkEnP (by kernel_rfl) Try.func37 (by kernel_rfl) chk37

/-- `penelope/alloc.Commit` -/
def c39 : C :=
  (.seq
 (.reg false [p (.box 2 (.v 0)),
 p (.alloc 2 (.agg [.fsl .nil 1 [], .fsl .nil 1 []])),
 p (.mov (.k (.int .i64 0)))] [(1, .r 2), (2, .r 1)])
 (.seq
 (.seq
 (.reg false [p (.load (some 2) (.v 1)),
 p (.call true (.k (.fn 32 [] [])) [.r 0]),
 p (.un .not (.r 0))] [(1, .v 1), (2, .v 2), (7, .r 0)])
 (.cond (.v 7)
 (.seq
 (.reg false [p (.build [.fsl .nil 1 [], .fsl .nil 1 []] []),
 p (.store (some 2) (.v 2) (.r 0)),
 p (.mov (.k (.int .i64 1)))] [(2, .v 2), (3, .r 0)])
 .ret)
 .skip))
 (.seq
 (.reg false [p (.fad 1 (.v 1)),
 p (.load (none) (.r 0)),
 p (.len false (.r 0)),
 p (.mks 1 1 (.bool false) (.r 0)),
 p (.mov (.r 0))] [(1, .v 1), (2, .v 2), (4, .r 0)])
 (.frz
 (.seq
 (.reg false [p (.mov (.v 4)),
 p (.fad 1 (.v 1)),
 p (.load (none) (.r 0)),
 p (.cpy 1 (.r 2) (.r 0))] [(1, .v 1), (2, .v 2), (4, .v 4)])
 (.frz
 (.seq
 (.reg false [p (.mov (.v 4)),
 p (.fad 0 (.v 1)),
 p (.store (none) (.r 0) (.r 1))] [(1, .v 1), (2, .v 2)])
 (.seq
 (.reg false [p (.load (some 2) (.v 1)),
 p (.store (some 2) (.v 2) (.r 0)),
 p (.mov (.k (.int .i64 0)))] [(2, .v 2), (3, .r 0)])
 .ret))))))))
def r39 : List RV := [.c 2 (some 2), .t 3]
theorem chk39 : Chk Try.prog Try.f39 c39 r39 := ⟨_, rfl, by kernel_rfl, by kernel_rfl⟩
theorem en39 : EnP Try.prog 39 20 c39 r39 := mkEnP (by kernel_rfl) Try.func39 (by kernel_rfl) chk39

/-- `penelope/peneloperef06.Like` -/
def c29 : C :=
  (.seq
 (.reg false [p (.box 2 (.v 0)),
 p (.box 2 (.v 1)),
 p (.mov (.k (.bool false)))] [(2, .r 2), (3, .r 1)])
 (.seq
 (.reg false [p (.fad 0 (.v 2)),
 p (.load (none) (.r 0)),
 p (.fad 0 (.v 3)),
 p (.load (none) (.r 0)),
 p (.call true (.k (.fn 20 [] [])) [.r 2, .r 0]),
 p (.mov (.r 0)),
 ⟨.fad 1 (.v 2), some (0, true), []⟩,
 ⟨.load (none) (.r 0), some (1, true), []⟩,
 ⟨.fad 1 (.v 3), some (2, true), []⟩,
 ⟨.load (none) (.r 0), some (3, true), []⟩,
 ⟨.call true (.k (.fn 20 [] [])) [.r 2, .r 0], some (4, true), []⟩,
 p (.pick (.r 5) (.r 0) (.k (.bool false))),
 p (.mov (.r 0))] [(4, .r 0)])
 .ret))
def r29 : List RV := [.t 4]
theorem chk29 : Chk Try.prog Try.f29 c29 r29 := ⟨_, rfl, by kernel_rfl, by kernel_rfl⟩
theorem en29 : EnP Try.prog 29 17 c29 r29 := mkEnP (by kernel_rfl) Try.func29 (by kernel_rfl) chk29

/-- `penelope/peneloperef06.Right` -/
def c33 : C :=
  (.seq
 (.reg false [p (.box 2 (.v 0)),
 p (.mov (.k (.bool false)))] [(1, .r 1)])
 (.seq
 (.seq
 (.reg false [p (.fad 0 (.v 1)),
 p (.load (none) (.r 0)),
 p (.len false (.r 0)),
 p (.fad 1 (.v 1)),
 p (.load (none) (.r 0)),
 p (.len false (.r 0)),
 p (.bin .neq (.r 3) (.r 0)),
 p (.mov (.r 0)),
 ⟨.fad 1 (.v 1), some (0, false), []⟩,
 ⟨.load (none) (.r 0), some (1, false), []⟩,
 ⟨.len false (.r 0), some (2, false), []⟩,
 ⟨.bin .lss (.r 0) (.k (.int .i64 24)), some (3, false), []⟩,
 p (.pick (.r 4) (.k (.bool true)) (.r 0)),
 p (.mov (.r 0)),
 ⟨.fad 1 (.v 1), some (0, false), []⟩,
 ⟨.load (none) (.r 0), some (1, false), []⟩,
 ⟨.len false (.r 0), some (2, false), []⟩,
 ⟨.bin .gtr (.r 0) (.k (.int .i64 2048)), some (3, false), []⟩,
 p (.pick (.r 4) (.k (.bool true)) (.r 0))] [(1, .v 1), (22, .r 0)])
 (.cond (.v 22)
 (.seq
 (.reg false [p (.mov (.k (.bool false)))] [(2, .r 0)])
 .ret)
 .skip))
 (.seq
 (.seq
 (.reg false [p (.mov (.k (.int .i64 0)))] [(1, .v 1), (3, .r 0)])
 (.block 0
 (.loop
 (.seq
 (.seq
 (.reg false [p (.mov (.v 3)),
 p (.bin .lss (.r 0) (.k (.int .i64 10)))] [(1, .v 1), (3, .v 3), (24, .r 0)])
 (.cond (.v 24)
 .skip
 (.exit 0)))
 (.seq
 (.block 1
 (.seq
 (.reg false [p (.fad 0 (.v 1)),
 p (.load (none) (.r 0)),
 p (.mov (.v 3)),
 p (.iad 1 (.r 1) (.r 0)),
 p (.load (none) (.r 0)),
 p (.un .not (.r 0)),
 p (.mov (.r 0)),
 ⟨.fad 1 (.v 1), some (0, false), []⟩,
 ⟨.load (none) (.r 0), some (1, false), []⟩,
 ⟨.mov (.v 3), some (2, false), []⟩,
 ⟨.iad 1 (.r 1) (.r 0), some (3, false), []⟩,
 ⟨.load (none) (.r 0), some (4, false), []⟩,
 ⟨.un .not (.r 0), some (5, false), []⟩,
 p (.pick (.r 6) (.k (.bool true)) (.r 0))] [(1, .v 1), (3, .v 3), (40, .r 0)])
 (.cond (.v 40)
 (.seq
 (.reg false [p (.mov (.k (.bool false)))] [(2, .r 0)])
 .ret)
 .skip)))
 (.reg false [p (.mov (.v 3)),
 p (.bin .add (.r 0) (.k (.int .i64 1))),
 p (.mov (.r 0))] [(1, .v 1), (3, .r 0)]))))))
 (.frz
 (.seq
 (.reg false [p (.mov (.k (.bool true)))] [(2, .r 0)])
 .ret)))))
def r33 : List RV := [.t 2]
theorem chk33 : Chk Try.prog Try.f33 c33 r33 := ⟨_, rfl, by kernel_rfl, by kernel_rfl⟩
theorem en33 : EnP Try.prog 33 41 c33 r33 := mkEnP (by kernel_rfl) Try.func33 (by kernel_rfl) chk33

/-- `penelope/peneloperef06.New` -/
def c30 : C :=
  (.seq
 (.reg false [p (.alloc 2 (.agg [.fsl .nil 1 [], .fsl .nil 1 []]))] [(0, .v 0), (2, .r 0)])
 (.seq
 (.reg false [p (.build [.fsl .nil 1 [], .fsl .nil 1 []] []),
 p (.alloc 2 (.agg [.fsl .nil 1 [], .fsl .nil 1 []])),
 p (.store (some 2) (.r 0) (.r 1))] [(0, .v 0), (2, .v 2), (3, .r 1)])
 (.seq
 (.seq
 (.reg false [p (.mov (.k (.int .i64 0)))] [(0, .v 0), (2, .v 2), (3, .v 3), (4, .r 0)])
 (.block 0
 (.loop
 (.seq
 (.seq
 (.reg false [p (.mov (.v 4)),
 p (.mov (.v 0)),
 p (.bin .lss (.r 1) (.r 0))] [(0, .v 0), (2, .v 2), (3, .v 3), (4, .v 4), (8, .r 0)])
 (.cond (.v 8)
 .skip
 (.exit 0)))
 (.seq
 (.block 1
 (.seq
 (.reg false [p (.fad 0 (.v 3)),
 p (.load (none) (.r 0)),
 p (.mov (.v 4)),
 p (.bin .lss (.r 0) (.k (.int .i64 10))),
 p (.bsl 1 [.r 0]),
 p (.app 1 1 (.r 3) (.r 0)),
 p (.fad 0 (.v 3)),
 p (.store (none) (.r 0) (.r 1))] [(0, .v 0), (2, .v 2), (3, .v 3), (4, .v 4)])
 (.reg false [p (.fad 1 (.v 3)),
 p (.load (none) (.r 0)),
 p (.mov (.v 4)),
 p (.bin .lss (.r 0) (.k (.int .i64 10))),
 p (.bsl 1 [.r 0]),
 p (.app 1 1 (.r 3) (.r 0)),
 p (.fad 1 (.v 3)),
 p (.store (none) (.r 0) (.r 1))] [(0, .v 0), (2, .v 2), (3, .v 3), (4, .v 4)])))
 (.reg false [p (.mov (.v 4)),
 p (.bin .add (.r 0) (.k (.int .i64 1))),
 p (.mov (.r 0))] [(0, .v 0), (2, .v 2), (3, .v 3), (4, .r 0)]))))))
 (.frz
 (.seq
 (.reg false [p (.load (some 2) (.v 3)),
 p (.store (some 2) (.v 2) (.r 0))] [(2, .v 2)])
 .ret)))))
def r30 : List RV := [.c 2 (some 2)]
theorem chk30 : Chk Try.prog Try.f30 c30 r30 := ⟨_, rfl, by kernel_rfl, by kernel_rfl⟩
theorem en30 : EnP Try.prog 30 26 c30 r30 := mkEnP (by kernel_rfl) Try.func30 (by kernel_rfl) chk30

/-- `penelope/peneloperef06.Free` -/
def c35 : C :=
  (.seq
 (.reg false [p (.box 2 (.v 0)),
 p (.mov (.k (.int .i64 0)))] [(1, .r 1)])
 (.seq
 (.reg false [p (.mov (.k (.int .i64 0)))] [(1, .v 1), (3, .r 0)])
 (.seq
 (.seq
 (.reg false [p (.load (some 2) (.v 1)),
 p (.call true (.k (.fn 33 [] [])) [.r 0]),
 p (.un .not (.r 0))] [(1, .v 1), (3, .v 3), (7, .r 0)])
 (.cond (.v 7)
 (.seq
 (.reg false [p (.mov (.k (.int .i64 0)))] [(2, .r 0)])
 .ret)
 .skip))
 (.seq
 (.seq
 (.reg false [p (.fad 1 (.v 1)),
 p (.load (none) (.r 0)),
 p (.len false (.r 0)),
 p (.mov (.k (.int .i64 0)))] [(1, .v 1), (3, .v 3), (10, .r 1), (11, .r 0)])
 (.block 0
 (.loop
 (.seq
 (.reg false [p (.bin .lss (.v 11) (.v 10))] [(1, .v 1), (3, .v 3), (10, .v 10), (11, .v 11), (12, .r 0)])
 (.seq
 (.cond (.v 12)
 .skip
 (.exit 0))
 (.seq
 (.block 1
 (.seq
 (.reg false [p (.mov (.v 11)),
 p (.mov (.r 0))] [(1, .v 1), (3, .v 3), (4, .r 0), (10, .v 10), (11, .v 11)])
 (.seq
 (.reg false [p (.load (some 2) (.v 1)),
 p (.mov (.v 4)),
 p (.call true (.k (.fn 38 [] [])) [.r 1, .r 0])] [(1, .v 1), (3, .v 3), (10, .v 10), (11, .v 11), (16, .r 0)])
 (.cond (.v 16)
 (.reg false [p (.mov (.v 3)),
 p (.bin .add (.r 0) (.k (.int .i64 1))),
 p (.mov (.r 0))] [(1, .v 1), (3, .r 0), (10, .v 10), (11, .v 11)])
 .skip))))
 (.reg false [p (.bin .add (.v 11) (.k (.int .i64 1))),
 p (.mov (.r 0))] [(1, .v 1), (3, .v 3), (10, .v 10), (11, .r 0)])))))))
 (.frz
 (.seq
 (.reg false [p (.mov (.v 3)),
 p (.mov (.r 0))] [(2, .r 0)])
 .ret))))))
def r35 : List RV := [.t 2]
theorem chk35 : Chk Try.prog Try.f35 c35 r35 := ⟨_, rfl, by kernel_rfl, by kernel_rfl⟩
theorem en35 : EnP Try.prog 35 21 c35 r35 := mkEnP (by kernel_rfl) Try.func35 (by kernel_rfl) chk35

/-- `penelope/peneloperef06.IsFree` -/
def c38 : C :=
  (.seq
 (.reg false [p (.box 2 (.v 0)),
 p (.mov (.k (.bool false)))] [(1, .v 1), (2, .r 1)])
 (.seq
 (.reg false [p (.mov (.v 1)),
 p (.bin .geq (.r 0) (.k (.int .i64 0))),
 p (.mov (.r 0)),
 ⟨.mov (.v 1), some (0, true), []⟩,
 ⟨.fad 1 (.v 2), some (1, true), []⟩,
 ⟨.load (none) (.r 0), some (2, true), []⟩,
 ⟨.len false (.r 0), some (3, true), []⟩,
 ⟨.bin .lss (.r 3) (.r 0), some (4, true), []⟩,
 p (.pick (.r 5) (.r 0) (.k (.bool false))),
 p (.mov (.r 0)),
 ⟨.fad 1 (.v 2), some (0, true), []⟩,
 ⟨.load (none) (.r 0), some (1, true), []⟩,
 ⟨.mov (.v 1), some (2, true), []⟩,
 ⟨.iad 1 (.r 1) (.r 0), some (3, true), []⟩,
 ⟨.load (none) (.r 0), some (4, true), []⟩,
 ⟨.un .not (.r 0), some (5, true), []⟩,
 p (.pick (.r 6) (.r 0) (.k (.bool false))),
 p (.mov (.r 0)),
 ⟨.fad 0 (.v 2), some (0, true), []⟩,
 ⟨.load (none) (.r 0), some (1, true), []⟩,
 ⟨.mov (.v 1), some (2, true), []⟩,
 ⟨.iad 1 (.r 1) (.r 0), some (3, true), []⟩,
 ⟨.load (none) (.r 0), some (4, true), []⟩,
 ⟨.un .not (.r 0), some (5, true), []⟩,
 p (.pick (.r 6) (.r 0) (.k (.bool false))),
 p (.mov (.r 0))] [(4, .r 0)])
 .ret))
def r38 : List RV := [.t 4]
theorem chk38 : Chk Try.prog Try.f38 c38 r38 := ⟨_, rfl, by kernel_rfl, by kernel_rfl⟩
theorem en38 : EnP Try.prog 38 30 c38 r38 := mkEnP (by kernel_rfl) Try.func38 (by kernel_rfl) chk38

/-- `penelope/peneloperef06.with` -/
def c51 : C :=
  (.seq
 (.reg false [p (.box 2 (.v 0)),
 p (.alloc 2 (.agg [.fsl .nil 1 [], .fsl .nil 1 []]))] [(1, .v 1), (2, .v 2), (3, .r 1), (6, .r 0)])
 (.seq
 (.reg false [p (.fad 0 (.v 3)),
 p (.load (none) (.r 0)),
 p (.build [.fsl .nil 1 [], .fsl .nil 1 []] [(0, 1, .r 0)]),
 p (.alloc 2 (.agg [.fsl .nil 1 [], .fsl .nil 1 []])),
 p (.store (some 2) (.r 0) (.r 1))] [(1, .v 1), (2, .v 2), (3, .v 3), (6, .v 6), (7, .r 1)])
 (.seq
 (.seq
 (.reg false [p (.fad 1 (.v 3)),
 p (.load (none) (.r 0)),
 p (.len false (.r 0)),
 p (.mov (.k (.int .i64 0)))] [(1, .v 1), (2, .v 2), (3, .v 3), (6, .v 6), (7, .v 7), (14, .r 1), (15, .r 0)])
 (.block 0
 (.loop
 (.seq
 (.reg false [p (.bin .lss (.v 15) (.v 14))] [(1, .v 1), (2, .v 2), (3, .v 3), (6, .v 6), (7, .v 7), (14, .v 14), (15, .v 15), (16, .r 0)])
 (.seq
 (.cond (.v 16)
 .skip
 (.exit 0))
 (.seq
 (.block 1
 (.seq
 (.reg false [p (.mov (.v 15)),
 p (.mov (.r 0))] [(1, .v 1), (2, .v 2), (3, .v 3), (6, .v 6), (7, .v 7), (8, .r 0), (14, .v 14), (15, .v 15)])
 (.seq
 (.reg false [p (.mov (.v 8)),
 p (.mov (.v 1)),
 p (.bin .eql (.r 1) (.r 0))] [(1, .v 1), (2, .v 2), (3, .v 3), (6, .v 6), (7, .v 7), (8, .v 8), (14, .v 14), (15, .v 15), (20, .r 0)])
 (.cond (.v 20)
 (.reg false [p (.fad 1 (.v 7)),
 p (.load (none) (.r 0)),
 p (.mov (.v 2)),
 p (.bsl 1 [.r 0]),
 p (.app 1 1 (.r 2) (.r 0)),
 p (.fad 1 (.v 7)),
 p (.store (none) (.r 0) (.r 1))] [(1, .v 1), (2, .v 2), (3, .v 3), (6, .v 6), (7, .v 7), (14, .v 14), (15, .v 15)])
 (.reg true [p (.fad 1 (.v 7)),
 p (.load (none) (.r 0)),
 p (.fad 1 (.v 3)),
 p (.load (none) (.r 0)),
 p (.mov (.v 8)),
 p (.iad 1 (.r 1) (.r 0)),
 p (.load (none) (.r 0)),
 p (.bsl 1 [.r 0]),
 ⟨.app 1 1 (.r 6) (.r 0), none, [4, 2, 1]⟩,
 p (.fad 1 (.v 7)),
 p (.store (none) (.r 0) (.r 1))] [(1, .v 1), (2, .v 2), (3, .v 3), (6, .v 6), (7, .v 7), (14, .v 14), (15, .v 15)])))))
 (.reg false [p (.bin .add (.v 15) (.k (.int .i64 1))),
 p (.mov (.r 0))] [(1, .v 1), (2, .v 2), (3, .v 3), (6, .v 6), (7, .v 7), (14, .v 14), (15, .r 0)])))))))
 (.frz
 (.seq
 (.reg false [p (.load (some 2) (.v 7)),
 p (.store (some 2) (.v 6) (.r 0))] [(6, .v 6)])
 .ret)))))
def r51 : List RV := [.c 6 (some 2)]
theorem chk51 : Chk Try.prog Try.f51 c51 r51 := ⟨_, rfl, by kernel_rfl, by kernel_rfl⟩
theorem en51 : EnP Try.prog 51 39 c51 r51 := mkEnP (by kernel_rfl) Try.func51 (by kernel_rfl) chk51

/-- `penelope/peneloperef06.Take` -/
def c40 : C :=
  (.seq
 (.reg false [p (.box 2 (.v 0)),
 p (.alloc 2 (.agg [.fsl .nil 1 [], .fsl .nil 1 []])),
 p (.mov (.k (.int .i64 0))),
 p (.mov (.k (.int .i64 0)))] [(1, .r 3), (2, .r 2)])
 (.seq
 (.seq
 (.reg false [p (.fad 1 (.v 1)),
 p (.load (none) (.r 0)),
 p (.len false (.r 0)),
 p (.mov (.k (.int .i64 0)))] [(1, .v 1), (2, .v 2), (8, .r 1), (9, .r 0)])
 (.block 0
 (.loop
 (.seq
 (.reg false [p (.bin .lss (.v 9) (.v 8))] [(1, .v 1), (2, .v 2), (8, .v 8), (9, .v 9), (10, .r 0)])
 (.seq
 (.cond (.v 10)
 .skip
 (.exit 0))
 (.seq
 (.block 1
 (.seq
 (.reg false [p (.mov (.v 9)),
 p (.mov (.r 0))] [(1, .v 1), (2, .v 2), (5, .r 0), (8, .v 8), (9, .v 9)])
 (.seq
 (.reg false [p (.load (some 2) (.v 1)),
 p (.mov (.v 5)),
 p (.call true (.k (.fn 38 [] [])) [.r 1, .r 0])] [(1, .v 1), (2, .v 2), (5, .v 5), (8, .v 8), (9, .v 9), (14, .r 0)])
 (.cond (.v 14)
 (.seq
 (.reg false [p (.load (some 2) (.v 1)),
 p (.mov (.v 5)),
 p (.call true (.k (.fn 51 [] [])) [.r 1, .r 0, .k (.bool true)]),
 p (.mov (.v 5)),
 p (.store (some 2) (.v 2) (.r 1)),
 p (.mov (.r 1)),
 p (.mov (.k (.int .i64 0)))] [(2, .v 2), (3, .r 1), (4, .r 0)])
 .ret)
 .skip))))
 (.reg false [p (.bin .add (.v 9) (.k (.int .i64 1))),
 p (.mov (.r 0))] [(1, .v 1), (2, .v 2), (8, .v 8), (9, .r 0)])))))))
 (.frz
 (.seq
 (.reg false [p (.build [.fsl .nil 1 [], .fsl .nil 1 []] []),
 p (.store (some 2) (.v 2) (.r 0)),
 p (.mov (.k (.int .i64 0))),
 p (.mov (.k (.int .i64 60)))] [(2, .v 2), (3, .r 1), (4, .r 0)])
 .ret))))
def r40 : List RV := [.c 2 (some 2), .t 3, .t 4]
theorem chk40 : Chk Try.prog Try.f40 c40 r40 := ⟨_, rfl, by kernel_rfl, by kernel_rfl⟩
theorem en40 : EnP Try.prog 40 21 c40 r40 := mkEnP (by kernel_rfl) Try.func40 (by kernel_rfl) chk40

/-- `penelope/peneloperef06.Give` -/
def c41 : C :=
  (.seq
 (.reg false [p (.box 2 (.v 0)),
 p (.alloc 2 (.agg [.fsl .nil 1 [], .fsl .nil 1 []])),
 p (.mov (.k (.int .i64 0)))] [(1, .v 1), (2, .r 2), (4, .r 1)])
 (.seq
 (.seq
 (.reg false [p (.mov (.v 1)),
 p (.len false (.r 0)),
 p (.mov (.k (.int .i64 0)))] [(2, .v 2), (4, .v 4), (8, .r 2), (9, .r 1), (10, .r 0)])
 (.block 0
 (.loop
 (.seq
 (.reg false [p (.bin .lss (.v 10) (.v 9))] [(2, .v 2), (4, .v 4), (8, .v 8), (9, .v 9), (10, .v 10), (11, .r 0)])
 (.seq
 (.cond (.v 11)
 .skip
 (.exit 0))
 (.seq
 (.block 1
 (.seq
 (.reg false [p (.iad 1 (.v 8) (.v 10)),
 p (.load (none) (.r 0)),
 p (.mov (.r 0))] [(2, .v 2), (4, .v 4), (7, .r 0), (8, .v 8), (9, .v 9), (10, .v 10)])
 (.seq
 (.seq
 (.reg false [p (.mov (.v 7)),
 p (.bin .lss (.r 0) (.k (.int .i64 10))),
 p (.mov (.r 0)),
 ⟨.mov (.v 7), some (0, false), []⟩,
 ⟨.fad 1 (.v 2), some (1, false), []⟩,
 ⟨.load (none) (.r 0), some (2, false), []⟩,
 ⟨.len false (.r 0), some (3, false), []⟩,
 ⟨.bin .geq (.r 3) (.r 0), some (4, false), []⟩,
 p (.pick (.r 5) (.k (.bool true)) (.r 0)),
 p (.mov (.r 0)),
 ⟨.fad 1 (.v 2), some (0, false), []⟩,
 ⟨.load (none) (.r 0), some (1, false), []⟩,
 ⟨.mov (.v 7), some (2, false), []⟩,
 ⟨.iad 1 (.r 1) (.r 0), some (3, false), []⟩,
 ⟨.load (none) (.r 0), some (4, false), []⟩,
 ⟨.un .not (.r 0), some (5, false), []⟩,
 p (.pick (.r 6) (.k (.bool true)) (.r 0))] [(2, .v 2), (4, .v 4), (7, .v 7), (8, .v 8), (9, .v 9), (10, .v 10), (30, .r 0)])
 (.cond (.v 30)
 (.seq
 (.reg false [p (.build [.fsl .nil 1 [], .fsl .nil 1 []] []),
 p (.store (some 2) (.v 4) (.r 0)),
 p (.mov (.k (.int .i64 30)))] [(4, .v 4), (5, .r 0)])
 .ret)
 .skip))
 (.reg false [p (.load (some 2) (.v 2)),
 p (.mov (.v 7)),
 p (.call true (.k (.fn 51 [] [])) [.r 1, .r 0, .k (.bool false)]),
 p (.store (some 2) (.v 2) (.r 0))] [(2, .v 2), (4, .v 4), (8, .v 8), (9, .v 9), (10, .v 10)]))))
 (.reg false [p (.bin .add (.v 10) (.k (.int .i64 1))),
 p (.mov (.r 0))] [(2, .v 2), (4, .v 4), (8, .v 8), (9, .v 9), (10, .r 0)])))))))
 (.frz
 (.seq
 (.reg false [p (.load (some 2) (.v 2)),
 p (.store (some 2) (.v 4) (.r 0)),
 p (.mov (.k (.int .i64 0)))] [(4, .v 4), (5, .r 0)])
 .ret))))
def r41 : List RV := [.c 4 (some 2), .t 5]
theorem chk41 : Chk Try.prog Try.f41 c41 r41 := ⟨_, rfl, by kernel_rfl, by kernel_rfl⟩
theorem en41 : EnP Try.prog 41 37 c41 r41 := mkEnP (by kernel_rfl) Try.func41 (by kernel_rfl) chk41

/-- `penelope/penelopelaw06.alive` -/
def c31 : C :=
  (.seq
 (.reg false [p (.mov (.k (.bool false)))] [])
 (.seq
 (.reg false [p (.call true (.k (.fn 28 [] [])) [.k (.int .i64 24)]),
 p (.mov (.r 0)),
 p (.ext (.r 0) 0),
 p (.ext (.r 1) 1),
 p (.alloc 2 (.agg [.fsl .nil 1 [], .fsl .nil 1 []])),
 p (.store (some 2) (.r 0) (.r 2)),
 p (.mov (.r 2))] [(1, .r 2), (2, .r 0)])
 (.seq
 (.reg false [p (.mov (.v 2)),
 p (.bin .eql (.r 0) (.k (.int .i64 0))),
 p (.mov (.r 0)),
 ⟨.load (some 2) (.v 1), some (0, true), []⟩,
 ⟨.call true (.k (.fn 32 [] [])) [.r 0], some (1, true), []⟩,
 p (.pick (.r 2) (.r 0) (.k (.bool false))),
 p (.mov (.r 0)),
 ⟨.load (some 2) (.v 1), some (0, true), []⟩,
 ⟨.call true (.k (.fn 34 [] [])) [.r 0], some (1, true), []⟩,
 ⟨.bin .eql (.r 0) (.k (.int .i64 14)), some (2, true), []⟩,
 p (.pick (.r 3) (.r 0) (.k (.bool false))),
 p (.mov (.r 0))] [(0, .r 0)])
 .ret)))
def r31 : List RV := [.t 0]
theorem chk31 : Chk Try.prog Try.f31 c31 r31 := ⟨_, rfl, by kernel_rfl, by kernel_rfl⟩
theorem en31 : EnP Try.prog 31 18 c31 r31 := mkEnP (by kernel_rfl) Try.func31 (by kernel_rfl) chk31

/-- `penelope/penelopelaw06.AllocRights` -/
def c9 : C :=
  (.seq
 (.reg false [p (.box 2 (.v 0)),
 p (.mov (.k (.bool false)))] [(1, .v 1), (2, .r 1)])
 (.seq
 (.reg false [p (.mov (.v 1)),
 p (.call true (.k (.fn 28 [] [])) [.r 0]),
 p (.mov (.r 0)),
 p (.ext (.r 0) 0),
 p (.ext (.r 1) 1),
 p (.alloc 2 (.agg [.fsl .nil 1 [], .fsl .nil 1 []])),
 p (.store (some 2) (.r 0) (.r 2)),
 p (.mov (.r 2))] [(1, .v 1), (2, .v 2), (5, .r 2), (6, .r 0)])
 (.seq
 (.seq
 (.reg false [p (.mov (.v 1)),
 p (.bin .lss (.r 0) (.k (.int .i64 24))),
 p (.mov (.r 0)),
 ⟨.mov (.v 1), some (0, false), []⟩,
 ⟨.bin .gtr (.r 0) (.k (.int .i64 2048)), some (1, false), []⟩,
 p (.pick (.r 2) (.k (.bool true)) (.r 0))] [(1, .v 1), (2, .v 2), (5, .v 5), (6, .v 6), (17, .r 0)])
 (.cond (.v 17)
 (.seq
 (.reg false [p (.mov (.v 6)),
 p (.bin .neq (.r 0) (.k (.int .i64 1))),
 p (.mov (.r 0)),
 ⟨.load (some 2) (.v 5), some (0, false), []⟩,
 ⟨.build [.fsl .nil 1 [], .fsl .nil 1 []] [], some (1, false), []⟩,
 ⟨.call true (.k (.fn 29 [] [])) [.r 1, .r 0], some (2, false), []⟩,
 ⟨.un .not (.r 0), some (3, false), []⟩,
 p (.pick (.r 4) (.k (.bool true)) (.r 0))] [(2, .v 2), (25, .r 0)])
 (.cond (.v 25)
 (.seq
 (.reg false [p (.mov (.k (.bool false)))] [(4, .r 0)])
 .ret)
 .skip))
 (.seq
 (.reg true [p (.mov (.v 6)),
 p (.bin .neq (.r 0) (.k (.int .i64 0))),
 p (.mov (.r 0)),
 ⟨.load (some 2) (.v 5), some (0, false), []⟩,
 ⟨.mov (.v 1), some (1, false), []⟩,
 ⟨.call true (.k (.fn 30 [] [])) [.r 0], some (2, false), []⟩,
 ⟨.call true (.k (.fn 29 [] [])) [.r 2, .r 0], some (3, false), []⟩,
 ⟨.un .not (.r 0), some (4, false), []⟩,
 p (.pick (.r 5) (.k (.bool true)) (.r 0))] [(2, .v 2), (34, .r 0)])
 (.cond (.v 34)
 (.seq
 (.reg false [p (.mov (.k (.bool false)))] [(4, .r 0)])
 .ret)
 .skip))))
 (.seq
 (.reg true [p (.call true (.k (.fn 31 [] [])) []),
 p (.mov (.r 0)),
 ⟨.load (some 2) (.v 2), some (0, true), []⟩,
 ⟨.call true (.k (.fn 32 [] [])) [.r 0], some (1, true), []⟩,
 ⟨.load (some 2) (.v 2), some (2, true), []⟩,
 ⟨.call true (.k (.fn 33 [] [])) [.r 0], some (3, true), []⟩,
 ⟨.eqb false (.r 2) (.r 0), some (4, true), []⟩,
 p (.pick (.r 5) (.r 0) (.k (.bool false))),
 p (.mov (.r 0)),
 ⟨.load (some 2) (.v 2), some (0, true), []⟩,
 ⟨.call true (.k (.fn 34 [] [])) [.r 0], some (1, true), []⟩,
 ⟨.load (some 2) (.v 2), some (2, true), []⟩,
 ⟨.call true (.k (.fn 35 [] [])) [.r 0], some (3, true), []⟩,
 ⟨.bin .eql (.r 2) (.r 0), some (4, true), []⟩,
 p (.pick (.r 5) (.r 0) (.k (.bool false))),
 p (.mov (.r 0))] [(4, .r 0)])
 .ret))))
def r9 : List RV := [.t 4]
theorem chk9 : Chk Try.prog Try.f9 c9 r9 := ⟨_, rfl, by kernel_rfl, by kernel_rfl⟩
theorem en9 : EnP Try.prog 9 50 c9 r9 := mkEnP (by kernel_rfl) Try.func9 (by kernel_rfl) chk9

/-- `penelope/penelopelaw06.AllocTakes` -/
def c10 : C :=
  (.seq
 (.reg false [p (.box 2 (.v 0)),
 p (.mov (.k (.bool false)))] [(1, .r 1)])
 (.seq
 (.seq
 (.reg false [p (.load (some 2) (.v 1)),
 p (.call true (.k (.fn 33 [] [])) [.r 0]),
 p (.un .not (.r 0))] [(1, .v 1), (13, .r 0)])
 (.cond (.v 13)
 (.seq
 (.reg false [p (.call true (.k (.fn 31 [] [])) []),
 p (.mov (.r 0))] [(2, .r 0)])
 .ret)
 .skip))
 (.seq
 (.reg false [p (.load (some 2) (.v 1)),
 p (.call true (.k (.fn 36 [] [])) [.r 0]),
 p (.mov (.r 0)),
 p (.ext (.r 0) 0),
 p (.ext (.r 1) 1),
 p (.ext (.r 2) 2),
 p (.alloc 2 (.agg [.fsl .nil 1 [], .fsl .nil 1 []])),
 p (.store (some 2) (.r 0) (.r 3)),
 p (.mov (.r 3)),
 p (.mov (.r 3))] [(1, .v 1), (3, .r 3), (4, .r 1), (5, .r 0)])
 (.seq
 (.seq
 (.reg false [p (.mov (.v 5)),
 p (.bin .neq (.r 0) (.k (.int .i64 0)))] [(1, .v 1), (3, .v 3), (4, .v 4), (5, .v 5), (22, .r 0)])
 (.cond (.v 22)
 (.seq
 (.reg false [p (.call true (.k (.fn 31 [] [])) []),
 p (.mov (.r 0)),
 ⟨.mov (.v 5), some (0, true), []⟩,
 ⟨.bin .eql (.r 0) (.k (.int .i64 60)), some (1, true), []⟩,
 p (.pick (.r 2) (.r 0) (.k (.bool false))),
 p (.mov (.r 0)),
 ⟨.load (some 2) (.v 1), some (0, true), []⟩,
 ⟨.call true (.k (.fn 34 [] [])) [.r 0], some (1, true), []⟩,
 ⟨.bin .eql (.r 0) (.k (.int .i64 0)), some (2, true), []⟩,
 p (.pick (.r 3) (.r 0) (.k (.bool false))),
 p (.mov (.r 0))] [(2, .r 0)])
 .ret)
 .skip))
 (.seq
 (.reg false [p (.load (some 2) (.v 3)),
 p (.mov (.v 4)),
 p (.bsl 1 [.r 0]),
 p (.call true (.k (.fn 37 [] [])) [.r 2, .r 0]),
 p (.mov (.r 0)),
 p (.ext (.r 0) 0),
 p (.ext (.r 1) 1),
 p (.alloc 2 (.agg [.fsl .nil 1 [], .fsl .nil 1 []])),
 p (.store (some 2) (.r 0) (.r 2)),
 p (.mov (.r 2))] [(1, .v 1), (3, .v 3), (4, .v 4), (6, .r 2), (7, .r 0)])
 (.seq
 (.reg false [p (.load (some 2) (.v 6)),
 p (.call true (.k (.fn 36 [] [])) [.r 0]),
 p (.mov (.r 0)),
 p (.ext (.r 0) 0),
 p (.ext (.r 1) 1),
 p (.ext (.r 2) 2),
 p (.alloc 2 (.agg [.fsl .nil 1 [], .fsl .nil 1 []])),
 p (.store (some 2) (.r 0) (.r 3)),
 p (.mov (.r 3)),
 p (.mov (.r 3))] [(1, .v 1), (3, .v 3), (4, .v 4), (6, .v 6), (7, .v 7), (9, .r 1), (10, .r 0)])
 (.seq
 (.reg true [p (.call true (.k (.fn 31 [] [])) []),
 p (.mov (.r 0)),
 ⟨.mov (.v 7), some (0, true), []⟩,
 ⟨.bin .eql (.r 0) (.k (.int .i64 0)), some (1, true), []⟩,
 p (.pick (.r 2) (.r 0) (.k (.bool false))),
 p (.mov (.r 0)),
 ⟨.mov (.v 10), some (0, true), []⟩,
 ⟨.bin .eql (.r 0) (.k (.int .i64 0)), some (1, true), []⟩,
 p (.pick (.r 2) (.r 0) (.k (.bool false))),
 p (.mov (.r 0)),
 ⟨.load (some 2) (.v 1), some (0, true), []⟩,
 ⟨.mov (.v 4), some (1, true), []⟩,
 ⟨.call true (.k (.fn 38 [] [])) [.r 1, .r 0], some (2, true), []⟩,
 p (.pick (.r 3) (.r 0) (.k (.bool false))),
 p (.mov (.r 0)),
 ⟨.load (some 2) (.v 3), some (0, true), []⟩,
 ⟨.mov (.v 4), some (1, true), []⟩,
 ⟨.call true (.k (.fn 38 [] [])) [.r 1, .r 0], some (2, true), []⟩,
 ⟨.un .not (.r 0), some (3, true), []⟩,
 p (.pick (.r 4) (.r 0) (.k (.bool false))),
 p (.mov (.r 0)),
 ⟨.load (some 2) (.v 3), some (0, true), []⟩,
 ⟨.call true (.k (.fn 34 [] [])) [.r 0], some (1, true), []⟩,
 ⟨.load (some 2) (.v 1), some (2, true), []⟩,
 ⟨.call true (.k (.fn 34 [] [])) [.r 0], some (3, true), []⟩,
 ⟨.bin .sub (.r 0) (.k (.int .i64 1)), some (4, true), []⟩,
 ⟨.bin .eql (.r 3) (.r 0), some (5, true), []⟩,
 p (.pick (.r 6) (.r 0) (.k (.bool false))),
 p (.mov (.r 0)),
 ⟨.load (some 2) (.v 6), some (0, true), []⟩,
 ⟨.load (some 2) (.v 1), some (1, true), []⟩,
 ⟨.call true (.k (.fn 29 [] [])) [.r 1, .r 0], some (2, true), []⟩,
 p (.pick (.r 3) (.r 0) (.k (.bool false))),
 p (.mov (.r 0)),
 ⟨.mov (.v 9), some (0, true), []⟩,
 ⟨.mov (.v 4), some (1, true), []⟩,
 ⟨.bin .eql (.r 1) (.r 0), some (2, true), []⟩,
 p (.pick (.r 3) (.r 0) (.k (.bool false))),
 p (.mov (.r 0))] [(2, .r 0)])
 .ret)))))))
def r10 : List RV := [.t 2]
theorem chk10 : Chk Try.prog Try.f10 c10 r10 := ⟨_, rfl, by kernel_rfl, by kernel_rfl⟩
theorem en10 : EnP Try.prog 10 84 c10 r10 := mkEnP (by kernel_rfl) Try.func10 (by kernel_rfl) chk10

/-- `penelope/penelopelaw06.AllocCalls` -/
def c12 : C :=
  (.seq
 (.reg false [p (.box 2 (.v 0)),
 p (.mov (.k (.bool false)))] [(1, .v 1), (2, .r 1)])
 (.seq
 (.reg false [p (.mov (.v 1)),
 p (.mov (.v 1)),
 p (.len false (.r 0)),
 p (.mnx false (.r 0) [.k (.int .i64 20)]),
 p (.slc 1 (.r 3) none (some (.r 0)) none),
 p (.mov (.r 0))] [(1, .r 0), (2, .v 2)])
 (.seq
 (.reg false [p (.load (some 2) (.v 2)),
 p (.call true (.k (.fn 36 [] [])) [.r 0]),
 p (.mov (.r 0)),
 p (.ext (.r 0) 0),
 p (.ext (.r 1) 1),
 p (.ext (.r 2) 2),
 p (.alloc 2 (.agg [.fsl .nil 1 [], .fsl .nil 1 []])),
 p (.store (some 2) (.r 0) (.r 3)),
 p (.mov (.r 3)),
 p (.mov (.r 3))] [(1, .v 1), (2, .v 2), (5, .r 3), (6, .r 1), (7, .r 0)])
 (.seq
 (.reg false [p (.load (some 2) (.v 2)),
 p (.mov (.v 1)),
 p (.call true (.k (.fn 37 [] [])) [.r 1, .r 0]),
 p (.mov (.r 0)),
 p (.ext (.r 0) 0),
 p (.ext (.r 1) 1),
 p (.alloc 2 (.agg [.fsl .nil 1 [], .fsl .nil 1 []])),
 p (.store (some 2) (.r 0) (.r 2)),
 p (.mov (.r 2))] [(1, .v 1), (2, .v 2), (5, .v 5), (6, .v 6), (7, .v 7), (8, .r 2), (9, .r 0)])
 (.seq
 (.reg false [p (.load (some 2) (.v 2)),
 p (.call true (.k (.fn 39 [] [])) [.r 0]),
 p (.mov (.r 0)),
 p (.ext (.r 0) 0),
 p (.ext (.r 1) 1),
 p (.alloc 2 (.agg [.fsl .nil 1 [], .fsl .nil 1 []])),
 p (.store (some 2) (.r 0) (.r 2)),
 p (.mov (.r 2))] [(1, .v 1), (2, .v 2), (5, .v 5), (6, .v 6), (7, .v 7), (8, .v 8), (9, .v 9), (10, .r 2), (11, .r 0)])
 (.seq
 (.seq
 (.reg false [p (.load (some 2) (.v 2)),
 p (.call true (.k (.fn 33 [] [])) [.r 0]),
 p (.un .not (.r 0))] [(1, .v 1), (2, .v 2), (5, .v 5), (6, .v 6), (7, .v 7), (8, .v 8), (9, .v 9), (10, .v 10), (11, .v 11), (42, .r 0)])
 (.cond (.v 42)
 (.seq
 (.reg false [p (.build [.fsl .nil 1 [], .fsl .nil 1 []] []),
 p (.alloc 2 (.agg [.fsl .nil 1 [], .fsl .nil 1 []])),
 p (.store (some 2) (.r 0) (.r 1))] [(5, .v 5), (6, .v 6), (7, .v 7), (8, .v 8), (9, .v 9), (10, .v 10), (11, .v 11), (12, .r 1)])
 (.seq
 (.reg false [p (.call true (.k (.fn 31 [] [])) []),
 p (.mov (.r 0)),
 ⟨.mov (.v 7), some (0, true), []⟩,
 ⟨.bin .eql (.r 0) (.k (.int .i64 1)), some (1, true), []⟩,
 p (.pick (.r 2) (.r 0) (.k (.bool false))),
 p (.mov (.r 0)),
 ⟨.mov (.v 9), some (0, true), []⟩,
 ⟨.bin .eql (.r 0) (.k (.int .i64 1)), some (1, true), []⟩,
 p (.pick (.r 2) (.r 0) (.k (.bool false))),
 p (.mov (.r 0)),
 ⟨.mov (.v 11), some (0, true), []⟩,
 ⟨.bin .eql (.r 0) (.k (.int .i64 1)), some (1, true), []⟩,
 p (.pick (.r 2) (.r 0) (.k (.bool false))),
 p (.mov (.r 0)),
 ⟨.mov (.v 6), some (0, true), []⟩,
 ⟨.bin .eql (.r 0) (.k (.int .i64 0)), some (1, true), []⟩,
 p (.pick (.r 2) (.r 0) (.k (.bool false))),
 p (.mov (.r 0)),
 ⟨.load (some 2) (.v 5), some (0, true), []⟩,
 ⟨.load (some 2) (.v 12), some (1, true), []⟩,
 ⟨.call true (.k (.fn 29 [] [])) [.r 1, .r 0], some (2, true), []⟩,
 p (.pick (.r 3) (.r 0) (.k (.bool false))),
 p (.mov (.r 0)),
 ⟨.load (some 2) (.v 8), some (0, true), []⟩,
 ⟨.load (some 2) (.v 12), some (1, true), []⟩,
 ⟨.call true (.k (.fn 29 [] [])) [.r 1, .r 0], some (2, true), []⟩,
 p (.pick (.r 3) (.r 0) (.k (.bool false))),
 p (.mov (.r 0)),
 ⟨.load (some 2) (.v 10), some (0, true), []⟩,
 ⟨.load (some 2) (.v 12), some (1, true), []⟩,
 ⟨.call true (.k (.fn 29 [] [])) [.r 1, .r 0], some (2, true), []⟩,
 p (.pick (.r 3) (.r 0) (.k (.bool false))),
 p (.mov (.r 0))] [(4, .r 0)])
 .ret))
 .skip))
 (.seq
 (.reg false [p (.load (some 2) (.v 2)),
 p (.call true (.k (.fn 40 [] [])) [.r 0]),
 p (.mov (.r 0)),
 p (.ext (.r 0) 0),
 p (.ext (.r 1) 1),
 p (.ext (.r 2) 2),
 p (.alloc 2 (.agg [.fsl .nil 1 [], .fsl .nil 1 []])),
 p (.store (some 2) (.r 0) (.r 3)),
 p (.mov (.r 3)),
 p (.mov (.r 3))] [(1, .v 1), (2, .v 2), (5, .v 5), (6, .v 6), (7, .v 7), (8, .v 8), (9, .v 9), (10, .v 10), (11, .v 11), (13, .r 3), (14, .r 1), (15, .r 0)])
 (.seq
 (.reg false [p (.load (some 2) (.v 2)),
 p (.mov (.v 1)),
 p (.call true (.k (.fn 41 [] [])) [.r 1, .r 0]),
 p (.mov (.r 0)),
 p (.ext (.r 0) 0),
 p (.ext (.r 1) 1),
 p (.alloc 2 (.agg [.fsl .nil 1 [], .fsl .nil 1 []])),
 p (.store (some 2) (.r 0) (.r 2)),
 p (.mov (.r 2))] [(2, .v 2), (5, .v 5), (6, .v 6), (7, .v 7), (8, .v 8), (9, .v 9), (10, .v 10), (11, .v 11), (13, .v 13), (14, .v 14), (15, .v 15), (16, .r 2), (17, .r 0)])
 (.seq
 (.reg false [p (.call true (.k (.fn 31 [] [])) []),
 p (.mov (.r 0)),
 ⟨.mov (.v 7), some (0, true), []⟩,
 ⟨.mov (.v 15), some (1, true), []⟩,
 ⟨.bin .eql (.r 1) (.r 0), some (2, true), []⟩,
 p (.pick (.r 3) (.r 0) (.k (.bool false))),
 p (.mov (.r 0)),
 ⟨.mov (.v 6), some (0, true), []⟩,
 ⟨.mov (.v 14), some (1, true), []⟩,
 ⟨.bin .eql (.r 1) (.r 0), some (2, true), []⟩,
 p (.pick (.r 3) (.r 0) (.k (.bool false))),
 p (.mov (.r 0)),
 ⟨.load (some 2) (.v 5), some (0, true), []⟩,
 ⟨.load (some 2) (.v 13), some (1, true), []⟩,
 ⟨.call true (.k (.fn 29 [] [])) [.r 1, .r 0], some (2, true), []⟩,
 p (.pick (.r 3) (.r 0) (.k (.bool false))),
 p (.mov (.r 0)),
 ⟨.mov (.v 9), some (0, true), []⟩,
 ⟨.mov (.v 17), some (1, true), []⟩,
 ⟨.bin .eql (.r 1) (.r 0), some (2, true), []⟩,
 p (.pick (.r 3) (.r 0) (.k (.bool false))),
 p (.mov (.r 0)),
 ⟨.load (some 2) (.v 8), some (0, true), []⟩,
 ⟨.load (some 2) (.v 16), some (1, true), []⟩,
 ⟨.call true (.k (.fn 29 [] [])) [.r 1, .r 0], some (2, true), []⟩,
 p (.pick (.r 3) (.r 0) (.k (.bool false))),
 p (.mov (.r 0)),
 ⟨.mov (.v 11), some (0, true), []⟩,
 ⟨.bin .eql (.r 0) (.k (.int .i64 0)), some (1, true), []⟩,
 p (.pick (.r 2) (.r 0) (.k (.bool false))),
 p (.mov (.r 0)),
 ⟨.load (some 2) (.v 10), some (0, true), []⟩,
 ⟨.fad 1 (.v 2), some (1, true), []⟩,
 ⟨.load (none) (.r 0), some (2, true), []⟩,
 ⟨.fad 1 (.v 2), some (3, true), []⟩,
 ⟨.load (none) (.r 0), some (4, true), []⟩,
 ⟨.build [.fsl .nil 1 [], .fsl .nil 1 []] [(0, 1, .r 2), (1, 1, .r 0)], some (5, true), []⟩,
 ⟨.call true (.k (.fn 29 [] [])) [.r 5, .r 0], some (6, true), []⟩,
 p (.pick (.r 7) (.r 0) (.k (.bool false))),
 p (.mov (.r 0))] [(4, .r 0)])
 .ret)))))))))
def r12 : List RV := [.t 4]
theorem chk12 : Chk Try.prog Try.f12 c12 r12 := ⟨_, rfl, by kernel_rfl, by kernel_rfl⟩
theorem en12 : EnP Try.prog 12 127 c12 r12 := mkEnP (by kernel_rfl) Try.func12 (by kernel_rfl) chk12

/-- `penelope/penelopelaw06.AllocFills` -/
def c11 : C :=
  (.seq
 (.reg false [p (.box 2 (.v 0)),
 p (.mov (.k (.bool false)))] [(1, .v 1), (2, .r 1)])
 (.seq
 (.seq
 (.reg false [p (.load (some 2) (.v 2)),
 p (.call true (.k (.fn 33 [] [])) [.r 0]),
 p (.un .not (.r 0)),
 p (.mov (.r 0)),
 ⟨.fad 1 (.v 2), some (0, false), []⟩,
 ⟨.load (none) (.r 0), some (1, false), []⟩,
 ⟨.len false (.r 0), some (2, false), []⟩,
 ⟨.bin .gtr (.r 0) (.k (.int .i64 300)), some (3, false), []⟩,
 p (.pick (.r 4) (.k (.bool true)) (.r 0))] [(1, .v 1), (2, .v 2), (24, .r 0)])
 (.cond (.v 24)
 (.seq
 (.reg false [p (.call true (.k (.fn 31 [] [])) []),
 p (.mov (.r 0))] [(4, .r 0)])
 .ret)
 .skip))
 (.seq
 (.reg false [p (.load (some 2) (.v 2)),
 p (.alloc 2 (.agg [.fsl .nil 1 [], .fsl .nil 1 []])),
 p (.store (some 2) (.r 0) (.r 1))] [(1, .v 1), (2, .v 2), (5, .r 1)])
 (.seq
 (.reg false [p (.mov (.k (.fsl .nil 1 [])))] [(1, .v 1), (2, .v 2), (5, .v 5), (6, .r 0)])
 (.seq
 (.seq
 (.reg false [p (.load (some 2) (.v 2)),
 p (.call true (.k (.fn 34 [] [])) [.r 0]),
 p (.mov (.k (.int .i64 0)))] [(1, .v 1), (2, .v 2), (5, .v 5), (6, .v 6), (28, .r 1), (29, .r 0)])
 (.block 0
 (.loop
 (.seq
 (.reg false [p (.bin .lss (.v 29) (.v 28))] [(1, .v 1), (2, .v 2), (5, .v 5), (6, .v 6), (28, .v 28), (29, .v 29), (30, .r 0)])
 (.seq
 (.cond (.v 30)
 .skip
 (.exit 0))
 (.seq
 (.block 1
 (.seq
 (.reg false [p (.load (some 2) (.v 5)),
 p (.call true (.k (.fn 36 [] [])) [.r 0]),
 p (.mov (.r 0)),
 p (.ext (.r 0) 0),
 p (.ext (.r 1) 1),
 p (.ext (.r 2) 2),
 p (.alloc 2 (.agg [.fsl .nil 1 [], .fsl .nil 1 []])),
 p (.store (some 2) (.r 0) (.r 3)),
 p (.mov (.r 3)),
 p (.mov (.r 3))] [(1, .v 1), (2, .v 2), (5, .v 5), (6, .v 6), (7, .r 3), (8, .r 1), (9, .r 0), (28, .v 28), (29, .v 29)])
 (.seq
 (.seq
 (.reg false [p (.mov (.v 9)),
 p (.bin .neq (.r 0) (.k (.int .i64 0))),
 p (.mov (.r 0)),
 ⟨.mov (.v 6), some (0, false), []⟩,
 ⟨.len false (.r 0), some (1, false), []⟩,
 ⟨.bin .gtr (.r 0) (.k (.int .i64 0)), some (2, false), []⟩,
 ⟨.mov (.r 0), some (3, false), []⟩,
 ⟨.mov (.v 6), some (0, true), []⟩,
 ⟨.mov (.v 6), some (1, true), []⟩,
 ⟨.len false (.r 0), some (2, true), []⟩,
 ⟨.bin .sub (.r 0) (.k (.int .i64 1)), some (3, true), []⟩,
 ⟨.iad 1 (.r 3) (.r 0), some (4, true), []⟩,
 ⟨.load (none) (.r 0), some (5, true), []⟩,
 ⟨.mov (.v 8), some (6, true), []⟩,
 ⟨.bin .geq (.r 1) (.r 0), some (7, true), []⟩,
 ⟨.pick (.r 8) (.r 0) (.k (.bool false)), some (12, false), []⟩,
 p (.pick (.r 13) (.k (.bool true)) (.r 0))] [(1, .v 1), (2, .v 2), (5, .v 5), (6, .v 6), (7, .v 7), (8, .v 8), (28, .v 28), (29, .v 29), (53, .r 0)])
 (.cond (.v 53)
 (.seq
 (.reg false [p (.mov (.k (.bool false)))] [(4, .r 0)])
 .ret)
 .skip))
 (.seq
 (.reg false [p (.load (some 2) (.v 7)),
 p (.store (some 2) (.v 5) (.r 0))] [(1, .v 1), (2, .v 2), (5, .v 5), (6, .v 6), (8, .v 8), (28, .v 28), (29, .v 29)])
 (.reg false [p (.mov (.v 6)),
 p (.mov (.v 8)),
 p (.bsl 1 [.r 0]),
 p (.app 1 8 (.r 2) (.r 0)),
 p (.mov (.r 0))] [(1, .v 1), (2, .v 2), (5, .v 5), (6, .r 0), (28, .v 28), (29, .v 29)])))))
 (.reg false [p (.bin .add (.v 29) (.k (.int .i64 1))),
 p (.mov (.r 0))] [(1, .v 1), (2, .v 2), (5, .v 5), (6, .v 6), (28, .v 28), (29, .r 0)])))))))
 (.frz
 (.seq
 (.seq
 (.reg false [p (.load (some 2) (.v 5)),
 p (.call true (.k (.fn 36 [] [])) [.r 0]),
 p (.mov (.r 0)),
 p (.ext (.r 0) 0),
 p (.ext (.r 1) 1),
 p (.ext (.r 2) 2),
 p (.alloc 2 (.agg [.fsl .nil 1 [], .fsl .nil 1 []])),
 p (.store (some 2) (.r 0) (.r 3)),
 p (.mov (.r 3)),
 p (.mov (.r 3))] [(1, .v 1), (2, .v 2), (5, .v 5), (6, .v 6), (12, .r 0)])
 (.seq
 (.reg false [p (.mov (.v 12)),
 p (.bin .neq (.r 0) (.k (.int .i64 60))),
 p (.mov (.r 0)),
 ⟨.load (some 2) (.v 5), some (0, false), []⟩,
 ⟨.call true (.k (.fn 34 [] [])) [.r 0], some (1, false), []⟩,
 ⟨.bin .neq (.r 0) (.k (.int .i64 0)), some (2, false), []⟩,
 p (.pick (.r 3) (.k (.bool true)) (.r 0))] [(1, .v 1), (2, .v 2), (5, .v 5), (6, .v 6), (72, .r 0)])
 (.cond (.v 72)
 (.seq
 (.reg false [p (.mov (.k (.bool false)))] [(4, .r 0)])
 .ret)
 .skip)))
 (.seq
 (.seq
 (.reg false [p (.mov (.v 6)),
 p (.len false (.r 0)),
 p (.mov (.r 0))] [(1, .v 1), (2, .v 2), (5, .v 5), (6, .v 6), (13, .r 0)])
 (.seq
 (.reg false [p (.mov (.v 13)),
 p (.bin .gtr (.r 0) (.k (.int .i64 0)))] [(1, .v 1), (2, .v 2), (5, .v 5), (6, .v 6), (13, .v 13), (76, .r 0)])
 (.cond (.v 76)
 (.seq
 (.reg false [p (.mov (.v 1)),
 p (.mov (.v 13)),
 p (.bin .rem (.r 1) (.r 0)),
 p (.mov (.v 13)),
 p (.bin .add (.r 1) (.r 0)),
 p (.mov (.v 13)),
 p (.bin .rem (.r 1) (.r 0)),
 p (.mov (.r 0))] [(1, .r 0), (2, .v 2), (5, .v 5), (6, .v 6)])
 (.reg true [p (.bsl 1 []),
 p (.mov (.v 6)),
 p (.mov (.v 1)),
 p (.slc 1 (.r 1) (some (.r 0)) none none),
 p (.app 1 8 (.r 3) (.r 0)),
 p (.mov (.v 6)),
 p (.mov (.v 1)),
 ⟨.slc 1 (.r 1) none (some (.r 0)) none, none, [2]⟩,
 ⟨.app 1 8 (.r 3) (.r 0), none, [4]⟩,
 p (.mov (.r 0))] [(2, .v 2), (5, .v 5), (6, .r 0)]))
 .skip)))
 (.seq
 (.reg false [p (.load (some 2) (.v 5)),
 p (.mov (.v 6)),
 p (.call true (.k (.fn 37 [] [])) [.r 1, .r 0]),
 p (.mov (.r 0)),
 p (.ext (.r 0) 0),
 p (.ext (.r 1) 1),
 p (.alloc 2 (.agg [.fsl .nil 1 [], .fsl .nil 1 []])),
 p (.store (some 2) (.r 0) (.r 2)),
 p (.mov (.r 2))] [(2, .v 2), (14, .r 2), (15, .r 0)])
 (.seq
 (.reg false [p (.call true (.k (.fn 31 [] [])) []),
 p (.mov (.r 0)),
 ⟨.mov (.v 15), some (0, true), []⟩,
 ⟨.bin .eql (.r 0) (.k (.int .i64 0)), some (1, true), []⟩,
 p (.pick (.r 2) (.r 0) (.k (.bool false))),
 p (.mov (.r 0)),
 ⟨.load (some 2) (.v 14), some (0, true), []⟩,
 ⟨.load (some 2) (.v 2), some (1, true), []⟩,
 ⟨.call true (.k (.fn 29 [] [])) [.r 1, .r 0], some (2, true), []⟩,
 p (.pick (.r 3) (.r 0) (.k (.bool false))),
 p (.mov (.r 0))] [(4, .r 0)])
 .ret))))))))))
def r11 : List RV := [.t 4]
theorem chk11 : Chk Try.prog Try.f11 c11 r11 := ⟨_, rfl, by kernel_rfl, by kernel_rfl⟩
theorem en11 : EnP Try.prog 11 109 c11 r11 := mkEnP (by kernel_rfl) Try.func11 (by kernel_rfl) chk11


end Go.Proofs.Ytickdhdlljhomaa.Ev
