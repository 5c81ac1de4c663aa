/-
  The program's code in compact form, with its checks.
-/
import Derived.Test.YtickdhdlljhomaaEv22
import Derived.Test.YtickdhdlljhomaaProg
import Derived.KernelRfl
set_option linter.unusedSimpArgs false
namespace Go.Proofs.Ytickdhdlljhomaa.Ev
open Go
/-- `penelope/bits.Pack` -/
def c18 : C :=
  (.seq
 (.reg false [p (.mov (.k (.str [])))] [(0, .v 0)])
 (.seq
 (.reg false [p (.mov (.v 0)),
 p (.len false (.r 0)),
 p (.bin .add (.r 0) (.k (.int .i64 7))),
 p (.bin .quo (.r 0) (.k (.int .i64 8))),
 p (.mks 1 1 (.int .u8 0) (.r 0)),
 p (.mov (.r 0))] [(0, .v 0), (3, .r 0)])
 (.seq
 (.seq
 (.reg false [p (.mov (.v 0)),
 p (.len false (.r 0)),
 p (.mov (.k (.int .i64 0)))] [(3, .v 3), (11, .r 2), (12, .r 1), (13, .r 0)])
 (.block 0
 (.loop
 (.seq
 (.reg false [p (.bin .lss (.v 13) (.v 12))] [(3, .v 3), (11, .v 11), (12, .v 12), (13, .v 13), (14, .r 0)])
 (.seq
 (.cond (.v 14)
 .skip
 (.exit 0))
 (.seq
 (.block 1
 (.seq
 (.reg false [p (.mov (.v 13)),
 p (.iad 1 (.v 11) (.v 13)),
 p (.load (none) (.r 0)),
 p (.mov (.r 2)),
 p (.mov (.r 1))] [(3, .v 3), (4, .r 1), (5, .r 0), (11, .v 11), (12, .v 12), (13, .v 13)])
 (.seq
 (.reg false [p (.mov (.v 5))] [(3, .v 3), (4, .v 4), (11, .v 11), (12, .v 12), (13, .v 13), (18, .r 0)])
 (.cond (.v 18)
 (.reg true [p (.mov (.v 3)),
 p (.mov (.v 4)),
 p (.bin .quo (.r 0) (.k (.int .i64 8))),
 p (.iad 1 (.r 2) (.r 0)),
 p (.load (none) (.r 0)),
 p (.mov (.v 4)),
 p (.bin .rem (.r 0) (.k (.int .i64 8))),
 p (.bin .shl (.k (.int .u8 1)) (.r 0)),
 p (.bin .or (.r 3) (.r 0)),
 p (.iad 1 (.r 8) (.r 6)),
 p (.store (none) (.r 0) (.r 1))] [(3, .v 3), (11, .v 11), (12, .v 12), (13, .v 13)])
 .skip))))
 (.reg false [p (.bin .add (.v 13) (.k (.int .i64 1))),
 p (.mov (.r 0))] [(3, .v 3), (11, .v 11), (12, .v 12), (13, .r 0)])))))))
 (.frz
 (.seq
 (.reg false [p (.mov (.v 3)),
 p (.bts (.r 0)),
 p (.mov (.r 0))] [(2, .r 0)])
 .ret)))))
def r18 : List RV := [.t 2]
theorem chk18 : Chk Try.prog Try.f18 c18 r18 := ⟨_, rfl, by kernel_rfl, by kernel_rfl⟩
theorem en18 : EnP Try.prog 18 32 c18 r18 := mkEnP (by kernel_rfl) Try.func18 (by kernel_rfl) chk18

/-- `penelope/peneloperef05.Pack` -/
def c19 : C :=
  (.seq
 (.reg false [p (.mov (.k (.str [])))] [(0, .v 0)])
 (.seq
 (.reg false [p (.bsl 1 []),
 p (.mov (.r 0))] [(0, .v 0), (3, .r 0)])
 (.seq
 (.seq
 (.reg false [p (.mov (.k (.int .i64 0)))] [(0, .v 0), (3, .v 3), (4, .r 0)])
 (.block 0
 (.loop
 (.seq
 (.seq
 (.reg false [p (.mov (.v 4)),
 p (.mov (.v 0)),
 p (.len false (.r 0)),
 p (.bin .lss (.r 2) (.r 0))] [(0, .v 0), (3, .v 3), (4, .v 4), (11, .r 0)])
 (.cond (.v 11)
 .skip
 (.exit 0)))
 (.seq
 (.block 1
 (.seq
 (.reg false [p (.mov (.k (.int .i64 0)))] [(0, .v 0), (3, .v 3), (4, .v 4), (5, .r 0)])
 (.seq
 (.seq
 (.reg false [p (.mov (.k (.int .i64 7)))] [(0, .v 0), (3, .v 3), (4, .v 4), (5, .v 5), (6, .r 0)])
 (.block 2
 (.loop
 (.seq
 (.seq
 (.reg false [p (.mov (.v 6)),
 p (.bin .geq (.r 0) (.k (.int .i64 0)))] [(0, .v 0), (3, .v 3), (4, .v 4), (5, .v 5), (6, .v 6), (15, .r 0)])
 (.cond (.v 15)
 .skip
 (.exit 2)))
 (.seq
 (.block 3
 (.seq
 (.reg false [p (.mov (.v 5)),
 p (.bin .mul (.r 0) (.k (.int .i64 2))),
 p (.mov (.r 0))] [(0, .v 0), (3, .v 3), (4, .v 4), (5, .r 0), (6, .v 6)])
 (.seq
 (.reg false [p (.mov (.v 0)),
 p (.mov (.v 4)),
 p (.mov (.v 6)),
 p (.bin .add (.r 1) (.r 0)),
 p (.call true (.k (.fn 42 [] [])) [.r 3, .r 0])] [(0, .v 0), (3, .v 3), (4, .v 4), (5, .v 5), (6, .v 6), (24, .r 0)])
 (.cond (.v 24)
 (.reg false [p (.mov (.v 5)),
 p (.bin .add (.r 0) (.k (.int .i64 1))),
 p (.mov (.r 0))] [(0, .v 0), (3, .v 3), (4, .v 4), (5, .r 0), (6, .v 6)])
 .skip))))
 (.reg false [p (.mov (.v 6)),
 p (.bin .sub (.r 0) (.k (.int .i64 1))),
 p (.mov (.r 0))] [(0, .v 0), (3, .v 3), (4, .v 4), (5, .v 5), (6, .r 0)]))))))
 (.frz
 (.reg false [p (.mov (.v 3)),
 p (.mov (.v 5)),
 p (.cvt .u8 (.r 0)),
 p (.bsl 1 [.r 0]),
 p (.app 1 1 (.r 3) (.r 0)),
 p (.mov (.r 0))] [(0, .v 0), (3, .r 0), (4, .v 4)])))))
 (.frz
 (.reg false [p (.mov (.v 4)),
 p (.bin .add (.r 0) (.k (.int .i64 8))),
 p (.mov (.r 0))] [(0, .v 0), (3, .v 3), (4, .r 0)])))))))
 (.frz
 (.seq
 (.reg false [p (.mov (.v 3)),
 p (.bts (.r 0)),
 p (.mov (.r 0))] [(2, .r 0)])
 .ret)))))
def r19 : List RV := [.t 2]
theorem chk19 : Chk Try.prog Try.f19 c19 r19 := ⟨_, rfl, by kernel_rfl, by kernel_rfl⟩
theorem en19 : EnP Try.prog 19 34 c19 r19 := mkEnP (by kernel_rfl) Try.func19 (by kernel_rfl) chk19

/-- `penelope/peneloperef05.Unpack` -/
def c16 : C :=
  (.seq
 (.reg false [p (.mov (.k (.fsl .nil 1 []))),
 p (.mov (.k (.int .i64 0)))] [(0, .v 0), (1, .v 1)])
 (.seq
 (.seq
 (.reg false [p (.mov (.v 1)),
 p (.bin .lss (.r 0) (.k (.int .i64 0))),
 p (.mov (.r 0)),
 ⟨.mov (.v 1), some (0, false), []⟩,
 ⟨.bin .gtr (.r 0) (.k (.int .i64 2048)), some (1, false), []⟩,
 p (.pick (.r 2) (.k (.bool true)) (.r 0))] [(0, .v 0), (1, .v 1), (13, .r 0)])
 (.cond (.v 13)
 (.seq
 (.reg false [p (.mov (.k (.fsl .nil 1 []))),
 p (.mov (.k (.int .i64 1)))] [(4, .r 1), (5, .r 0)])
 .ret)
 .skip))
 (.seq
 (.seq
 (.reg false [p (.mov (.v 0)),
 p (.len true (.r 0)),
 p (.bin .mul (.k (.int .i64 8)) (.r 0)),
 p (.mov (.v 1)),
 p (.bin .lss (.r 1) (.r 0))] [(0, .v 0), (1, .v 1), (18, .r 0)])
 (.cond (.v 18)
 (.seq
 (.reg false [p (.mov (.k (.fsl .nil 1 []))),
 p (.mov (.k (.int .i64 3)))] [(4, .r 1), (5, .r 0)])
 .ret)
 .skip))
 (.seq
 (.reg false [p (.bsl 1 []),
 p (.mov (.r 0))] [(0, .v 0), (1, .v 1), (6, .r 0)])
 (.seq
 (.seq
 (.reg false [p (.mov (.k (.int .i64 0)))] [(0, .v 0), (1, .v 1), (6, .v 6), (7, .r 0)])
 (.block 0
 (.loop
 (.seq
 (.seq
 (.reg false [p (.mov (.v 7)),
 p (.mov (.v 1)),
 p (.bin .lss (.r 1) (.r 0))] [(0, .v 0), (1, .v 1), (6, .v 6), (7, .v 7), (22, .r 0)])
 (.cond (.v 22)
 .skip
 (.exit 0)))
 (.seq
 (.block 1
 (.reg false [p (.mov (.v 6)),
 p (.mov (.v 0)),
 p (.mov (.v 7)),
 p (.bin .quo (.r 0) (.k (.int .i64 8))),
 p (.ixs (.r 2) (.r 0)),
 p (.mov (.v 7)),
 p (.bin .rem (.r 0) (.k (.int .i64 8))),
 p (.cvt .u64 (.r 0)),
 p (.bin .shr (.r 3) (.r 0)),
 p (.bin .rem (.r 0) (.k (.int .u8 2))),
 p (.bin .eql (.r 0) (.k (.int .u8 1))),
 p (.bsl 1 [.r 0]),
 p (.app 1 1 (.r 11) (.r 0)),
 p (.mov (.r 0))] [(0, .v 0), (1, .v 1), (6, .r 0), (7, .v 7)]))
 (.reg false [p (.mov (.v 7)),
 p (.bin .add (.r 0) (.k (.int .i64 1))),
 p (.mov (.r 0))] [(0, .v 0), (1, .v 1), (6, .v 6), (7, .r 0)]))))))
 (.frz
 (.seq
 (.seq
 (.reg false [p (.mov (.v 6)),
 p (.call true (.k (.fn 19 [] [])) [.r 0]),
 p (.mov (.v 0)),
 p (.bin .neq (.r 1) (.r 0))] [(6, .v 6), (41, .r 0)])
 (.cond (.v 41)
 (.seq
 (.reg false [p (.mov (.k (.fsl .nil 1 []))),
 p (.mov (.k (.int .i64 4)))] [(4, .r 1), (5, .r 0)])
 .ret)
 .skip))
 (.seq
 (.reg false [p (.mov (.v 6)),
 p (.mov (.r 0)),
 p (.mov (.k (.int .i64 0)))] [(4, .r 1), (5, .r 0)])
 .ret))))))))
def r16 : List RV := [.t 4, .t 5]
theorem chk16 : Chk Try.prog Try.f16 c16 r16 := ⟨_, rfl, by kernel_rfl, by kernel_rfl⟩
theorem en16 : EnP Try.prog 16 43 c16 r16 := mkEnP (by kernel_rfl) Try.func16 (by kernel_rfl) chk16

/-- `penelope/bits.Unpack` -/
def c15 : C :=
  (.seq
 (.reg false [p (.mov (.k (.fsl .nil 1 []))),
 p (.mov (.k (.int .i64 0)))] [(0, .v 0), (1, .v 1)])
 (.seq
 (.block 0
 (.seq
 (.reg false [p (.mov (.v 1)),
 p (.bin .lss (.r 0) (.k (.int .i64 0))),
 p (.mov (.r 0)),
 ⟨.mov (.v 1), some (0, false), []⟩,
 ⟨.bin .gtr (.r 0) (.k (.int .i64 2048)), some (1, false), []⟩,
 p (.pick (.r 2) (.k (.bool true)) (.r 0)),
 p (.mov (.r 0))] [(0, .v 0), (1, .v 1), (8, .r 0)])
 (.cond (.v 8)
 (.seq
 (.reg false [p (.mov (.k (.fsl .nil 1 []))),
 p (.mov (.k (.int .i64 1)))] [(4, .r 1), (5, .r 0)])
 .ret)
 (.seq
 (.reg false [p (.mov (.v 0)),
 p (.len true (.r 0)),
 p (.mov (.v 1)),
 p (.bin .add (.r 0) (.k (.int .i64 7))),
 p (.bin .quo (.r 0) (.k (.int .i64 8))),
 p (.bin .lss (.r 3) (.r 0)),
 p (.mov (.r 0))] [(0, .v 0), (1, .v 1), (15, .r 0)])
 (.cond (.v 15)
 (.seq
 (.reg false [p (.mov (.k (.fsl .nil 1 []))),
 p (.mov (.k (.int .i64 3)))] [(4, .r 1), (5, .r 0)])
 .ret)
 .skip)))))
 (.seq
 (.reg false [p (.mov (.v 1)),
 p (.mks 1 1 (.bool false) (.r 0)),
 p (.mov (.r 0))] [(0, .v 0), (6, .r 0)])
 (.seq
 (.seq
 (.reg false [p (.mov (.v 6)),
 p (.len false (.r 0)),
 p (.mov (.k (.int .i64 0)))] [(0, .v 0), (6, .v 6), (25, .r 1), (26, .r 0)])
 (.block 1
 (.loop
 (.seq
 (.reg false [p (.bin .lss (.v 26) (.v 25))] [(0, .v 0), (6, .v 6), (25, .v 25), (26, .v 26), (27, .r 0)])
 (.seq
 (.cond (.v 27)
 .skip
 (.exit 1))
 (.seq
 (.block 2
 (.seq
 (.reg false [p (.mov (.v 26)),
 p (.mov (.r 0))] [(0, .v 0), (6, .v 6), (7, .r 0), (25, .v 25), (26, .v 26)])
 (.reg false [p (.mov (.v 6)),
 p (.mov (.v 7)),
 p (.mov (.v 0)),
 p (.mov (.v 7)),
 p (.bin .quo (.r 0) (.k (.int .i64 8))),
 p (.ixs (.r 2) (.r 0)),
 p (.mov (.v 7)),
 p (.bin .rem (.r 0) (.k (.int .i64 8))),
 p (.bin .shr (.r 2) (.r 0)),
 p (.bin .and (.r 0) (.k (.int .u8 1))),
 p (.bin .eql (.r 0) (.k (.int .u8 1))),
 p (.iad 1 (.r 10) (.r 9)),
 p (.store (none) (.r 0) (.r 1))] [(0, .v 0), (6, .v 6), (25, .v 25), (26, .v 26)])))
 (.reg false [p (.bin .add (.v 26) (.k (.int .i64 1))),
 p (.mov (.r 0))] [(0, .v 0), (6, .v 6), (25, .v 25), (26, .r 0)])))))))
 (.frz
 (.seq
 (.seq
 (.reg false [p (.mov (.v 6)),
 p (.call true (.k (.fn 18 [] [])) [.r 0]),
 p (.mov (.v 0)),
 p (.bin .neq (.r 1) (.r 0))] [(6, .v 6), (45, .r 0)])
 (.cond (.v 45)
 (.seq
 (.reg false [p (.mov (.k (.fsl .nil 1 []))),
 p (.mov (.k (.int .i64 4)))] [(4, .r 1), (5, .r 0)])
 .ret)
 .skip))
 (.seq
 (.reg false [p (.mov (.v 6)),
 p (.mov (.r 0)),
 p (.mov (.k (.int .i64 0)))] [(4, .r 1), (5, .r 0)])
 .ret)))))))
def r15 : List RV := [.t 4, .t 5]
theorem chk15 : Chk Try.prog Try.f15 c15 r15 := ⟨_, rfl, by kernel_rfl, by kernel_rfl⟩
theorem en15 : EnP Try.prog 15 47 c15 r15 := mkEnP (by kernel_rfl) Try.func15 (by kernel_rfl) chk15

/-- `penelope/peneloperef05.Same` -/
def c20 : C :=
  (.seq
 (.reg false [p (.mov (.k (.bool false)))] [(0, .v 0), (1, .v 1)])
 (.seq
 (.seq
 (.reg false [p (.mov (.v 0)),
 p (.len false (.r 0)),
 p (.mov (.v 1)),
 p (.len false (.r 0)),
 p (.bin .neq (.r 2) (.r 0))] [(0, .v 0), (1, .v 1), (10, .r 0)])
 (.cond (.v 10)
 (.seq
 (.reg false [p (.mov (.k (.bool false)))] [(4, .r 0)])
 .ret)
 .skip))
 (.seq
 (.seq
 (.reg false [p (.mov (.v 0)),
 p (.len false (.r 0)),
 p (.mov (.k (.int .i64 0)))] [(0, .v 0), (1, .v 1), (12, .r 1), (13, .r 0)])
 (.block 0
 (.loop
 (.seq
 (.reg false [p (.bin .lss (.v 13) (.v 12))] [(0, .v 0), (1, .v 1), (12, .v 12), (13, .v 13), (14, .r 0)])
 (.seq
 (.cond (.v 14)
 .skip
 (.exit 0))
 (.seq
 (.block 1
 (.seq
 (.reg false [p (.mov (.v 13)),
 p (.mov (.r 0))] [(0, .v 0), (1, .v 1), (5, .r 0), (12, .v 12), (13, .v 13)])
 (.seq
 (.reg true [p (.mov (.v 0)),
 p (.mov (.v 5)),
 p (.iad 1 (.r 1) (.r 0)),
 p (.load (none) (.r 0)),
 p (.mov (.v 1)),
 p (.mov (.v 5)),
 p (.iad 1 (.r 1) (.r 0)),
 p (.load (none) (.r 0)),
 p (.eqb true (.r 4) (.r 0))] [(0, .v 0), (1, .v 1), (12, .v 12), (13, .v 13), (24, .r 0)])
 (.cond (.v 24)
 (.seq
 (.reg false [p (.mov (.k (.bool false)))] [(4, .r 0)])
 .ret)
 .skip))))
 (.reg false [p (.bin .add (.v 13) (.k (.int .i64 1))),
 p (.mov (.r 0))] [(0, .v 0), (1, .v 1), (12, .v 12), (13, .r 0)])))))))
 (.frz
 (.seq
 (.reg false [p (.mov (.k (.bool true)))] [(4, .r 0)])
 .ret)))))
def r20 : List RV := [.t 4]
theorem chk20 : Chk Try.prog Try.f20 c20 r20 := ⟨_, rfl, by kernel_rfl, by kernel_rfl⟩
theorem en20 : EnP Try.prog 20 26 c20 r20 := mkEnP (by kernel_rfl) Try.func20 (by kernel_rfl) chk20

/-- `penelope/penelopelaw05.alive` -/
def c17 : C :=
  (.seq
 (.reg false [p (.mov (.k (.bool false)))] [])
 (.seq
 (.reg false [p (.bsl 1 [.k (.bool true)]),
 p (.call true (.k (.fn 18 [] [])) [.r 0]),
 p (.bin .eql (.r 0) (.k (.str [1]))),
 p (.mov (.r 0))] [(0, .r 0)])
 .ret))
def r17 : List RV := [.t 0]
theorem chk17 : Chk Try.prog Try.f17 c17 r17 := ⟨_, rfl, by kernel_rfl, by kernel_rfl⟩
theorem en17 : EnP Try.prog 17 4 c17 r17 := mkEnP (by kernel_rfl) Try.func17 (by kernel_rfl) chk17

/-- `penelope/penelopelaw05.few` -/
def c14 : C :=
  (.seq
 (.reg false [p (.mov (.k (.fsl .nil 1 [])))] [(0, .v 0)])
 (.seq
 (.reg false [p (.mov (.v 0)),
 p (.mov (.v 0)),
 p (.len false (.r 0)),
 p (.mnx false (.r 0) [.k (.int .i64 3000)]),
 p (.slc 1 (.r 3) none (some (.r 0)) none),
 p (.mov (.r 0))] [(2, .r 0)])
 .ret))
def r14 : List RV := [.t 2]
theorem chk14 : Chk Try.prog Try.f14 c14 r14 := ⟨_, rfl, by kernel_rfl, by kernel_rfl⟩
theorem en14 : EnP Try.prog 14 8 c14 r14 := mkEnP (by kernel_rfl) Try.func14 (by kernel_rfl) chk14

/-- `penelope/peneloperef05.At` -/
def c42 : C :=
  (.seq
 (.reg false [p (.mov (.k (.bool false)))] [(0, .v 0), (1, .v 1)])
 (.seq
 (.reg false [p (.mov (.v 1)),
 p (.bin .geq (.r 0) (.k (.int .i64 0))),
 p (.mov (.r 0)),
 ⟨.mov (.v 1), some (0, true), []⟩,
 ⟨.mov (.v 0), some (1, true), []⟩,
 ⟨.len false (.r 0), some (2, true), []⟩,
 ⟨.bin .lss (.r 2) (.r 0), some (3, true), []⟩,
 p (.pick (.r 4) (.r 0) (.k (.bool false))),
 p (.mov (.r 0)),
 ⟨.mov (.v 0), some (0, true), []⟩,
 ⟨.mov (.v 1), some (1, true), []⟩,
 ⟨.iad 1 (.r 1) (.r 0), some (2, true), []⟩,
 ⟨.load (none) (.r 0), some (3, true), []⟩,
 p (.pick (.r 4) (.r 0) (.k (.bool false))),
 p (.mov (.r 0))] [(4, .r 0)])
 .ret))
def r42 : List RV := [.t 4]
theorem chk42 : Chk Try.prog Try.f42 c42 r42 := ⟨_, rfl, by kernel_rfl, by kernel_rfl⟩
theorem en42 : EnP Try.prog 42 19 c42 r42 := mkEnP (by kernel_rfl) Try.func42 (by kernel_rfl) chk42

/-- `penelope/penelopelaw05.BitsPacks` -/
def c3 : C :=
  (.seq
 (.reg false [p (.mov (.k (.bool false)))] [(0, .v 0), (1, .v 1), (2, .v 2)])
 (.seq
 (.reg false [p (.mov (.v 0)),
 p (.call true (.k (.fn 14 [] [])) [.r 0]),
 p (.mov (.r 0))] [(0, .r 0), (1, .v 1), (2, .v 2)])
 (.seq
 (.reg false [p (.mov (.v 1)),
 p (.mov (.v 2)),
 p (.call true (.k (.fn 15 [] [])) [.r 1, .r 0]),
 p (.mov (.r 0)),
 p (.ext (.r 0) 0),
 p (.ext (.r 1) 1),
 p (.mov (.r 1)),
 p (.mov (.r 1))] [(0, .v 0), (1, .v 1), (2, .v 2), (7, .r 1), (8, .r 0)])
 (.seq
 (.reg false [p (.mov (.v 1)),
 p (.mov (.v 2)),
 p (.call true (.k (.fn 16 [] [])) [.r 1, .r 0]),
 p (.mov (.r 0)),
 p (.ext (.r 0) 0),
 p (.ext (.r 1) 1),
 p (.mov (.r 1)),
 p (.mov (.r 1))] [(0, .v 0), (7, .v 7), (8, .v 8), (9, .r 1), (10, .r 0)])
 (.seq
 (.reg false [p (.call true (.k (.fn 17 [] [])) []),
 p (.mov (.r 0)),
 ⟨.mov (.v 0), some (0, true), []⟩,
 ⟨.call true (.k (.fn 18 [] [])) [.r 0], some (1, true), []⟩,
 ⟨.mov (.v 0), some (2, true), []⟩,
 ⟨.call true (.k (.fn 19 [] [])) [.r 0], some (3, true), []⟩,
 ⟨.bin .eql (.r 2) (.r 0), some (4, true), []⟩,
 p (.pick (.r 5) (.r 0) (.k (.bool false))),
 p (.mov (.r 0)),
 ⟨.mov (.v 8), some (0, true), []⟩,
 ⟨.mov (.v 10), some (1, true), []⟩,
 ⟨.bin .eql (.r 1) (.r 0), some (2, true), []⟩,
 p (.pick (.r 3) (.r 0) (.k (.bool false))),
 p (.mov (.r 0)),
 ⟨.mov (.v 7), some (0, true), []⟩,
 ⟨.mov (.v 9), some (1, true), []⟩,
 ⟨.call true (.k (.fn 20 [] [])) [.r 1, .r 0], some (2, true), []⟩,
 p (.pick (.r 3) (.r 0) (.k (.bool false))),
 p (.mov (.r 0))] [(6, .r 0)])
 .ret)))))
def r3 : List RV := [.t 6]
theorem chk3 : Chk Try.prog Try.f3 c3 r3 := ⟨_, rfl, by kernel_rfl, by kernel_rfl⟩
theorem en3 : EnP Try.prog 3 43 c3 r3 := mkEnP (by kernel_rfl) Try.func3 (by kernel_rfl) chk3

/-- `penelope/penelopelaw05.BitsBack` -/
def c4 : C :=
  (.seq
 (.reg false [p (.mov (.k (.bool false)))] [(0, .v 0), (1, .v 1), (2, .v 2)])
 (.seq
 (.reg false [p (.mov (.v 0)),
 p (.mov (.v 0)),
 p (.len false (.r 0)),
 p (.mnx false (.r 0) [.k (.int .i64 2048)]),
 p (.slc 1 (.r 3) none (some (.r 0)) none),
 p (.mov (.r 0))] [(0, .r 0), (1, .v 1), (2, .v 2)])
 (.seq
 (.reg false [p (.mov (.v 0)),
 p (.call true (.k (.fn 18 [] [])) [.r 0]),
 p (.mov (.v 0)),
 p (.len false (.r 0)),
 p (.call true (.k (.fn 15 [] [])) [.r 2, .r 0]),
 p (.mov (.r 0)),
 p (.ext (.r 0) 0),
 p (.ext (.r 1) 1),
 p (.mov (.r 1)),
 p (.mov (.r 1))] [(0, .v 0), (1, .v 1), (2, .v 2), (7, .r 1), (8, .r 0)])
 (.seq
 (.reg false [p (.mov (.v 1)),
 p (.mov (.v 2)),
 p (.call true (.k (.fn 15 [] [])) [.r 1, .r 0]),
 p (.mov (.r 0)),
 p (.ext (.r 0) 0),
 p (.ext (.r 1) 1),
 p (.mov (.r 1)),
 p (.mov (.r 1))] [(0, .v 0), (1, .v 1), (2, .v 2), (7, .v 7), (8, .v 8), (9, .r 1), (10, .r 0)])
 (.seq
 (.reg false [p (.call true (.k (.fn 17 [] [])) []),
 p (.mov (.r 0)),
 ⟨.mov (.v 8), some (0, true), []⟩,
 ⟨.bin .eql (.r 0) (.k (.int .i64 0)), some (1, true), []⟩,
 p (.pick (.r 2) (.r 0) (.k (.bool false))),
 p (.mov (.r 0)),
 ⟨.mov (.v 7), some (0, true), []⟩,
 ⟨.mov (.v 0), some (1, true), []⟩,
 ⟨.call true (.k (.fn 20 [] [])) [.r 1, .r 0], some (2, true), []⟩,
 p (.pick (.r 3) (.r 0) (.k (.bool false))),
 p (.mov (.r 0)),
 ⟨.mov (.v 10), some (0, true), []⟩,
 ⟨.bin .neq (.r 0) (.k (.int .i64 0)), some (1, true), []⟩,
 ⟨.mov (.r 0), some (2, true), []⟩,
 ⟨.mov (.v 9), some (0, false), []⟩,
 ⟨.len false (.r 0), some (1, false), []⟩,
 ⟨.mov (.v 2), some (2, false), []⟩,
 ⟨.bin .eql (.r 1) (.r 0), some (3, false), []⟩,
 ⟨.mov (.r 0), some (4, false), []⟩,
 ⟨.mov (.v 9), some (0, true), []⟩,
 ⟨.call true (.k (.fn 18 [] [])) [.r 0], some (1, true), []⟩,
 ⟨.mov (.v 1), some (2, true), []⟩,
 ⟨.bin .eql (.r 1) (.r 0), some (3, true), []⟩,
 ⟨.pick (.r 4) (.r 0) (.k (.bool false)), some (9, false), []⟩,
 ⟨.pick (.r 10) (.k (.bool true)) (.r 0), some (13, true), []⟩,
 p (.pick (.r 14) (.r 0) (.k (.bool false))),
 p (.mov (.r 0))] [(6, .r 0)])
 .ret)))))
def r4 : List RV := [.t 6]
theorem chk4 : Chk Try.prog Try.f4 c4 r4 := ⟨_, rfl, by kernel_rfl, by kernel_rfl⟩
theorem en4 : EnP Try.prog 4 56 c4 r4 := mkEnP (by kernel_rfl) Try.func4 (by kernel_rfl) chk4


end Go.Proofs.Ytickdhdlljhomaa.Ev
