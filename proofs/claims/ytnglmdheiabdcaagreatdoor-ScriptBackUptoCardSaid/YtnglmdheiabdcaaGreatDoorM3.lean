/-
  Part 3 of what the proof of the statement ScriptBackUpto leans on: the evaluator, the functions in compact form, and what they answer.
-/
import Derived.Test.YtnglmdheiabdcaaGreatDoorM2
import Derived.Test.YtnglmdheiabdcaaGreatDoorProg
import Derived.KernelRfl
import Derived.Shelf.Strings.OnBuilder
import Derived.WalkKit
import Derived.LoopTactic
import Derived.Laws.RangeString
import Derived.Laws.RangeAny
import Derived.Lib.ItoaNum
import Derived.Lib.Join
import Derived.Lib.Split
import Derived.Lib.AtoiAll
import Derived.Shelf.Strconv.Itoa3
import Derived.Shelf.Strings.Cut
import Derived.Shelf.Strings.Split
import Derived.Shelf.Strconv.AtoiAll
set_option linter.unusedSimpArgs false
set_option linter.unusedVariables false
set_option maxRecDepth 10000
namespace Go.Proofs.YtnglmdheiabdcaaGreatDoor.Ev
open Go
def c92:C :=
  (.seq
 (.reg false [p (.mov (.k (.str [])))] [(0,.v 0)])
 (.seq
 (.reg false [p (.mov (.v 0)),
 p (.call true (.k (.fn 44 [] [])) [.r 0,.k (.str [])]),
 p (.mov (.r 0))] [(2,.r 0)])
 .ret))
def r92:List RV:=[.t 2]
theorem en92:EnP Tryz.prog 92 5 c92 r92:=mkEnP (by kernel_rfl) Tryz.func92 (by kernel_rfl) ⟨_,rfl,by kernel_rfl,by kernel_rfl⟩
def c120:C :=
  (.seq
 (.reg false [p (.mov (.k (.str []))),
 p (.mov (.k (.int .i64 0)))] [(0,.v 0),(1,.v 1)])
 (.seq
 (.seq
 (.reg false [p (.mov (.v 1)),
 p (.bin .lss (.r 0) (.k (.int .i64 1))),
 p (.mov (.r 0)),
 ⟨.mov (.v 1),some (0,false),[]⟩,
 ⟨.bin .gtr (.r 0) (.k (.int .i64 6)),some (1,false),[]⟩,
 p (.pick (.r 2) (.k (.bool true)) (.r 0)),
 p (.mov (.r 0)),
 ⟨.mov (.v 0),some (0,false),[]⟩,
 ⟨.bin .lss (.r 0) (.k (.int .i64 0)),some (1,false),[]⟩,
 p (.pick (.r 2) (.k (.bool true)) (.r 0)),
 p (.mov (.r 0)),
 ⟨.mov (.v 0),some (0,false),[]⟩,
 ⟨.mov (.v 1),some (1,false),[]⟩,
 ⟨.bin .mul (.k (.int .i64 8)) (.r 0),some (2,false),[]⟩,
 ⟨.bin .shr (.r 2) (.r 0),some (3,false),[]⟩,
 ⟨.bin .neq (.r 0) (.k (.int .i64 0)),some (4,false),[]⟩,
 p (.pick (.r 5) (.k (.bool true)) (.r 0))] [(0,.v 0),(1,.v 1),(24,.r 0)])
 (.cond (.v 24)
 (.seq
 (.reg false [p (.mov (.k (.str []))),
 p (.mov (.k (.int .i64 1)))] [(4,.r 1),(5,.r 0)])
 .ret)
 .skip))
 (.seq
 (.reg false [p (.mov (.v 1)),
 p (.mks 1 1 (.int .u8 0) (.r 0)),
 p (.mov (.r 0))] [(0,.v 0),(1,.v 1),(6,.r 0)])
 (.seq
 (.seq
 (.reg false [p (.mov (.v 6)),
 p (.len false (.r 0)),
 p (.mov (.k (.int .i64 0)))] [(0,.v 0),(1,.v 1),(6,.v 6),(28,.r 1),(29,.r 0)])
 (.block 0
 (.loop
 (.seq
 (.reg false [p (.bin .lss (.v 29) (.v 28))] [(0,.v 0),(1,.v 1),(6,.v 6),(28,.v 28),(29,.v 29),(30,.r 0)])
 (.seq
 (.cond (.v 30)
 .skip
 (.exit 0))
 (.seq
 (.block 1
 (.seq
 (.reg false [p (.mov (.v 29)),
 p (.mov (.r 0))] [(0,.v 0),(1,.v 1),(6,.v 6),(7,.r 0),(28,.v 28),(29,.v 29)])
 (.reg false [p (.mov (.v 6)),
 p (.mov (.v 1)),
 p (.bin .sub (.r 0) (.k (.int .i64 1))),
 p (.mov (.v 7)),
 p (.bin .sub (.r 1) (.r 0)),
 p (.mov (.v 0)),
 p (.mov (.v 7)),
 p (.bin .mul (.k (.int .i64 8)) (.r 0)),
 p (.bin .shr (.r 2) (.r 0)),
 p (.cvt .u8 (.r 0)),
 p (.iad 1 (.r 9) (.r 5)),
 p (.store (none) (.r 0) (.r 1))] [(0,.v 0),(1,.v 1),(6,.v 6),(28,.v 28),(29,.v 29)])))
 (.reg false [p (.bin .add (.v 29) (.k (.int .i64 1))),
 p (.mov (.r 0))] [(0,.v 0),(1,.v 1),(6,.v 6),(28,.v 28),(29,.r 0)])))))))
 (.frz
 (.seq
 (.reg false [p (.mov (.v 6)),
 p (.bts (.r 0)),
 p (.mov (.r 0)),
 p (.mov (.k (.int .i64 0)))] [(4,.r 1),(5,.r 0)])
 .ret))))))
def r120:List RV:=[.t 4,.t 5]
theorem en120:EnP Tryz.prog 120 46 c120 r120:=mkEnP (by kernel_rfl) Tryz.func120 (by kernel_rfl) ⟨_,rfl,by kernel_rfl,by kernel_rfl⟩
def c121:C :=
  (.seq
 (.reg false [p (.mov (.k (.str []))),
 p (.mov (.k (.int .i64 0)))] [(0,.v 0)])
 (.seq
 (.seq
 (.reg false [p (.mov (.v 0)),
 p (.len true (.r 0)),
 p (.bin .gtr (.r 0) (.k (.int .i64 65535)))] [(0,.v 0),(8,.r 0)])
 (.cond (.v 8)
 (.seq
 (.reg false [p (.mov (.k (.str []))),
 p (.mov (.k (.int .i64 2)))] [(2,.r 1),(3,.r 0)])
 .ret)
 .skip))
 (.seq
 (.reg false [p (.mov (.v 0)),
 p (.len true (.r 0)),
 p (.call true (.k (.fn 120 [] [])) [.r 0,.k (.int .i64 2)]),
 p (.mov (.r 0)),
 p (.ext (.r 0) 0),
 p (.ext (.r 1) 1),
 p (.mov (.r 1)),
 p (.mov (.r 1))] [(0,.v 0),(4,.r 1),(5,.r 0)])
 (.seq
 (.reg false [p (.mov (.v 4)),
 p (.mov (.v 0)),
 p (.bsl 1 [.r 1,.r 0]),
 p (.call true (.k (.fn 92 [] [])) [.r 0]),
 p (.mov (.v 5)),
 p (.mov (.r 1)),
 p (.mov (.r 1))] [(2,.r 1),(3,.r 0)])
 .ret))))
def r121:List RV:=[.t 2,.t 3]
theorem en121:EnP Tryz.prog 121 20 c121 r121:=mkEnP (by kernel_rfl) Tryz.func121 (by kernel_rfl) ⟨_,rfl,by kernel_rfl,by kernel_rfl⟩
def c135:C :=
  (.seq
 (.reg false [p (.mov (.k (.int .u32 0)))] [(0,.v 0),(1,.v 1)])
 (.seq
 (.reg false [p (.mov (.v 0)),
 p (.un .xor (.r 0)),
 p (.mov (.r 0))] [(1,.v 1),(5,.r 0)])
 (.seq
 (.seq
 (.reg false [p (.mov (.v 1)),
 p (.stb (.r 0)),
 p (.len false (.r 0)),
 p (.mov (.k (.int .i64 0)))] [(5,.v 5),(11,.r 2),(12,.r 1),(13,.r 0)])
 (.block 0
 (.loop
 (.seq
 (.reg false [p (.bin .lss (.v 13) (.v 12))] [(5,.v 5),(11,.v 11),(12,.v 12),(13,.v 13),(14,.r 0)])
 (.seq
 (.cond (.v 14)
 .skip
 (.exit 0))
 (.seq
 (.block 1
 (.seq
 (.reg false [p (.iad 1 (.v 11) (.v 13)),
 p (.load (none) (.r 0)),
 p (.mov (.r 0))] [(5,.v 5),(7,.r 0),(11,.v 11),(12,.v 12),(13,.v 13)])
 (.seq
 (.reg false [p (.mov (.v 5)),
 p (.mov (.v 7)),
 p (.cvt .u32 (.r 0)),
 p (.bin .xor (.r 2) (.r 0)),
 p (.mov (.r 0))] [(5,.r 0),(11,.v 11),(12,.v 12),(13,.v 13)])
 (.seq
 (.reg false [p (.mov (.k (.int .i64 0)))] [(5,.v 5),(11,.v 11),(12,.v 12),(13,.v 13),(21,.r 0)])
 (.block 2
 (.loop
 (.seq
 (.reg false [p (.bin .lss (.v 21) (.k (.int .i64 8)))] [(5,.v 5),(11,.v 11),(12,.v 12),(13,.v 13),(21,.v 21),(22,.r 0)])
 (.seq
 (.cond (.v 22)
 .skip
 (.exit 2))
 (.seq
 (.block 3
 (.reg false [p (.mov (.v 5)),
 p (.bin .shr (.r 0) (.k (.int .u64 1))),
 p (.mov (.v 5)),
 p (.bin .and (.r 0) (.k (.int .u32 1))),
 p (.un .neg (.r 0)),
 p (.bin .and (.k (.int .u32 2197175160)) (.r 0)),
 p (.bin .xor (.r 4) (.r 0)),
 p (.mov (.r 0))] [(5,.r 0),(11,.v 11),(12,.v 12),(13,.v 13),(21,.v 21)]))
 (.reg false [p (.bin .add (.v 21) (.k (.int .i64 1))),
 p (.mov (.r 0))] [(5,.v 5),(11,.v 11),(12,.v 12),(13,.v 13),(21,.r 0)]))))))))))
 (.frz
 (.reg false [p (.bin .add (.v 13) (.k (.int .i64 1))),
 p (.mov (.r 0))] [(5,.v 5),(11,.v 11),(12,.v 12),(13,.r 0)]))))))))
 (.frz
 (.seq
 (.reg false [p (.mov (.v 5)),
 p (.un .xor (.r 0)),
 p (.mov (.r 0))] [(4,.r 0)])
 .ret)))))
def r135:List RV:=[.t 4]
theorem en135:EnP Tryz.prog 135 34 c135 r135:=mkEnP (by kernel_rfl) Tryz.func135 (by kernel_rfl) ⟨_,rfl,by kernel_rfl,by kernel_rfl⟩
def c133:C :=
  (.seq
 (.reg false [p (.mov (.k (.int .u32 0)))] [(0,.v 0)])
 (.seq
 (.reg false [p (.mov (.k (.int .u32 0)))] [(0,.v 0),(3,.r 0)])
 (.seq
 (.seq
 (.reg false [p (.mov (.v 0)),
 p (.len false (.r 0)),
 p (.mov (.k (.int .i64 0)))] [(3,.v 3),(6,.r 2),(7,.r 1),(8,.r 0)])
 (.block 0
 (.loop
 (.seq
 (.reg false [p (.bin .lss (.v 8) (.v 7))] [(3,.v 3),(6,.v 6),(7,.v 7),(8,.v 8),(9,.r 0)])
 (.seq
 (.cond (.v 9)
 .skip
 (.exit 0))
 (.seq
 (.block 1
 (.seq
 (.reg false [p (.iad 1 (.v 6) (.v 8)),
 p (.load (none) (.r 0)),
 p (.mov (.r 0))] [(3,.v 3),(5,.r 0),(6,.v 6),(7,.v 7),(8,.v 8)])
 (.reg false [p (.mov (.v 3)),
 p (.mov (.v 5)),
 p (.call true (.k (.fn 135 [] [])) [.r 1,.r 0]),
 p (.mov (.r 0))] [(3,.r 0),(6,.v 6),(7,.v 7),(8,.v 8)])))
 (.reg false [p (.bin .add (.v 8) (.k (.int .i64 1))),
 p (.mov (.r 0))] [(3,.v 3),(6,.v 6),(7,.v 7),(8,.r 0)])))))))
 (.frz
 (.seq
 (.reg false [p (.mov (.v 3)),
 p (.mov (.r 0))] [(2,.r 0)])
 .ret)))))
def r133:List RV:=[.t 2]
theorem en133:EnP Tryz.prog 133 17 c133 r133:=mkEnP (by kernel_rfl) Tryz.func133 (by kernel_rfl) ⟨_,rfl,by kernel_rfl,by kernel_rfl⟩
def c123:C :=
  (.seq
 (.reg false [p (.mov (.k (.str [])))] [(0,.v 0)])
 (.seq
 (.reg false [p (.mov (.v 0)),
 p (.bsl 1 [.r 0]),
 p (.call true (.k (.fn 133 [] [])) [.r 0]),
 p (.mov (.r 0))] [(0,.v 0),(3,.r 0)])
 (.seq
 (.reg false [p (.mov (.v 0)),
 p (.mov (.v 3)),
 p (.cvt .u8 (.r 0)),
 p (.mov (.v 3)),
 p (.bin .shr (.r 0) (.k (.int .u64 8))),
 p (.cvt .u8 (.r 0)),
 p (.mov (.v 3)),
 p (.bin .shr (.r 0) (.k (.int .u64 16))),
 p (.cvt .u8 (.r 0)),
 p (.mov (.v 3)),
 p (.bin .shr (.r 0) (.k (.int .u64 24))),
 p (.cvt .u8 (.r 0)),
 p (.bsl 1 [.r 9,.r 6,.r 3,.r 0]),
 p (.bts (.r 0)),
 p (.bsl 1 [.r 13,.r 0]),
 p (.call true (.k (.fn 92 [] [])) [.r 0]),
 p (.mov (.r 0))] [(2,.r 0)])
 .ret)))
def r123:List RV:=[.t 2]
theorem en123:EnP Tryz.prog 123 23 c123 r123:=mkEnP (by kernel_rfl) Tryz.func123 (by kernel_rfl) ⟨_,rfl,by kernel_rfl,by kernel_rfl⟩
def c61:C :=
  (.seq
 (.reg false [p (.mov (.k (.int .i64 0)))] [(0,.v 0),(1,.v 1)])
 (.seq
 (.seq
 (.reg false [p (.mov (.v 0)),
 p (.len false (.r 0)),
 p (.mov (.k (.int .i64 0)))] [(0,.v 0),(1,.v 1),(7,.r 1),(8,.r 0)])
 (.block 0
 (.loop
 (.seq
 (.reg false [p (.bin .lss (.v 8) (.v 7))] [(0,.v 0),(1,.v 1),(7,.v 7),(8,.v 8),(9,.r 0)])
 (.seq
 (.cond (.v 9)
 .skip
 (.exit 0))
 (.seq
 (.block 1
 (.seq
 (.reg false [p (.mov (.v 8)),
 p (.mov (.r 0))] [(0,.v 0),(1,.v 1),(5,.r 0),(7,.v 7),(8,.v 8)])
 (.seq
 (.reg false [p (.mov (.v 1)),
 p (.mov (.v 0)),
 p (.mov (.v 5)),
 p (.iad 1 (.r 1) (.r 0)),
 p (.load (none) (.r 0)),
 p (.call false (.r 4) [.r 0])] [(0,.v 0),(1,.v 1),(5,.v 5),(7,.v 7),(8,.v 8),(16,.r 0)])
 (.cond (.v 16)
 (.seq
 (.reg false [p (.mov (.v 5)),
 p (.mov (.r 0))] [(4,.r 0)])
 .ret)
 .skip))))
 (.reg false [p (.bin .add (.v 8) (.k (.int .i64 1))),
 p (.mov (.r 0))] [(0,.v 0),(1,.v 1),(7,.v 7),(8,.r 0)])))))))
 (.frz
 (.seq
 (.reg false [p (.mov (.k (.int .i64 (-1))))] [(4,.r 0)])
 .ret))))
def r61:List RV:=[.t 4]
theorem chk61:Chk Tryz.prog Tryz.f61 c61 r61:=⟨_,rfl,by kernel_rfl,by kernel_rfl⟩
theorem ena61:EnA Tryz.prog 61 19 c61 r61:=mkEnA (by kernel_rfl) Tryz.func61 (by kernel_rfl) chk61
def c49:C :=
  (.seq
 (.reg false [p (.mov (.k (.bool false)))] [(0,.v 0),(1,.v 1)])
 (.seq
 (.reg false [p (.mov (.v 0)),
 p (.mov (.v 1)),
 p (.call false (.k (.fn 61 [] [])) [.r 1,.r 0]),
 p (.bin .geq (.r 0) (.k (.int .i64 0))),
 p (.mov (.r 0))] [(4,.r 0)])
 .ret))
def r49:List RV:=[.t 4]
theorem chk49:Chk Tryz.prog Tryz.f49 c49 r49:=⟨_,rfl,by kernel_rfl,by kernel_rfl⟩
theorem ena49:EnA Tryz.prog 49 9 c49 r49:=mkEnA (by kernel_rfl) Tryz.func49 (by kernel_rfl) chk49
def c124:C :=
  (.seq
 (.reg false [p (.mov (.k (.int .i64 0)))] [(0,.v 0),(1,.v 1)])
 (.seq
 (.seq
 (.reg false [p (.mov (.v 0)),
 p (.len false (.r 0)),
 p (.mov (.k (.int .i64 0)))] [(0,.v 0),(1,.v 1),(7,.r 1),(8,.r 0)])
 (.block 0
 (.loop
 (.seq
 (.reg false [p (.bin .lss (.v 8) (.v 7))] [(0,.v 0),(1,.v 1),(7,.v 7),(8,.v 8),(9,.r 0)])
 (.seq
 (.cond (.v 9)
 .skip
 (.exit 0))
 (.seq
 (.block 1
 (.seq
 (.reg false [p (.mov (.v 8)),
 p (.mov (.r 0))] [(0,.v 0),(1,.v 1),(5,.r 0),(7,.v 7),(8,.v 8)])
 (.seq
 (.reg false [p (.mov (.v 1)),
 p (.mov (.v 0)),
 p (.mov (.v 5)),
 p (.iad 4 (.r 1) (.r 0)),
 p (.load (some 4) (.r 0)),
 p (.call false (.r 4) [.r 0])] [(0,.v 0),(1,.v 1),(5,.v 5),(7,.v 7),(8,.v 8),(16,.r 0)])
 (.cond (.v 16)
 (.seq
 (.reg false [p (.mov (.v 5)),
 p (.mov (.r 0))] [(4,.r 0)])
 .ret)
 .skip))))
 (.reg false [p (.bin .add (.v 8) (.k (.int .i64 1))),
 p (.mov (.r 0))] [(0,.v 0),(1,.v 1),(7,.v 7),(8,.r 0)])))))))
 (.frz
 (.seq
 (.reg false [p (.mov (.k (.int .i64 (-1))))] [(4,.r 0)])
 .ret))))
def r124:List RV:=[.t 4]
theorem chk124:Chk Tryz.prog Tryz.f124 c124 r124:=⟨_,rfl,by kernel_rfl,by kernel_rfl⟩
theorem ena124:EnA Tryz.prog 124 19 c124 r124:=mkEnA (by kernel_rfl) Tryz.func124 (by kernel_rfl) chk124
def c95:C :=
  (.seq
 (.reg false [p (.mov (.k (.bool false)))] [(0,.v 0),(1,.v 1)])
 (.seq
 (.reg false [p (.mov (.v 0)),
 p (.mov (.v 1)),
 p (.call false (.k (.fn 124 [] [])) [.r 1,.r 0]),
 p (.bin .geq (.r 0) (.k (.int .i64 0))),
 p (.mov (.r 0))] [(4,.r 0)])
 .ret))
def r95:List RV:=[.t 4]
theorem chk95:Chk Tryz.prog Tryz.f95 c95 r95:=⟨_,rfl,by kernel_rfl,by kernel_rfl⟩
theorem ena95:EnA Tryz.prog 95 9 c95 r95:=mkEnA (by kernel_rfl) Tryz.func95 (by kernel_rfl) chk95
def c97:C :=
  (.seq
 (.reg false [p (.box 4 (.v 0)),
 p (.mov (.k (.bool false)))] [(1,.v 1),(2,.r 1)])
 (.seq
 (.reg false [p (.mov (.k (.int .i64 (-1))))] [(1,.v 1),(2,.v 2),(5,.r 0)])
 (.seq
 (.seq
 (.reg false [p (.fad 0 (.v 2)),
 p (.load (none) (.r 0)),
 p (.len false (.r 0)),
 p (.mov (.k (.int .i64 0)))] [(1,.v 1),(2,.v 2),(5,.v 5),(9,.r 2),(10,.r 1),(11,.r 0)])
 (.block 0
 (.loop
 (.seq
 (.reg false [p (.bin .lss (.v 11) (.v 10))] [(1,.v 1),(2,.v 2),(5,.v 5),(9,.v 9),(10,.v 10),(11,.v 11),(12,.r 0)])
 (.seq
 (.cond (.v 12)
 .skip
 (.exit 0))
 (.seq
 (.block 1
 (.seq
 (.reg false [p (.iad 1 (.v 9) (.v 11)),
 p (.load (none) (.r 0)),
 p (.mov (.r 0))] [(1,.v 1),(2,.v 2),(5,.v 5),(7,.r 0),(9,.v 9),(10,.v 10),(11,.v 11)])
 (.seq
 (.seq
 (.reg false [p (.mov (.v 7)),
 p (.mov (.v 5)),
 p (.bin .leq (.r 1) (.r 0)),
 p (.mov (.r 0)),
 ⟨.mov (.v 7),some (0,false),[]⟩,
 ⟨.mov (.v 1),some (1,false),[]⟩,
 ⟨.bin .geq (.r 1) (.r 0),some (2,false),[]⟩,
 p (.pick (.r 3) (.k (.bool true)) (.r 0))] [(1,.v 1),(2,.v 2),(7,.v 7),(9,.v 9),(10,.v 10),(11,.v 11),(22,.r 0)])
 (.cond (.v 22)
 (.seq
 (.reg false [p (.mov (.k (.bool false)))] [(4,.r 0)])
 .ret)
 .skip))
 (.reg false [p (.mov (.v 7)),
 p (.mov (.r 0))] [(1,.v 1),(2,.v 2),(5,.r 0),(9,.v 9),(10,.v 10),(11,.v 11)]))))
 (.reg false [p (.bin .add (.v 11) (.k (.int .i64 1))),
 p (.mov (.r 0))] [(1,.v 1),(2,.v 2),(5,.v 5),(9,.v 9),(10,.v 10),(11,.r 0)])))))))
 (.frz
 (.seq
 (.reg false [p (.fad 1 (.v 2)),
 p (.load (none) (.r 0)),
 p (.bin .geq (.r 0) (.k (.int .i64 1))),
 p (.mov (.r 0)),
 ⟨.fad 1 (.v 2),some (0,true),[]⟩,
 ⟨.load (none) (.r 0),some (1,true),[]⟩,
 ⟨.bin .leq (.r 0) (.k (.int .i64 8)),some (2,true),[]⟩,
 p (.pick (.r 3) (.r 0) (.k (.bool false))),
 p (.mov (.r 0)),
 ⟨.fad 2 (.v 2),some (0,true),[]⟩,
 ⟨.load (none) (.r 0),some (1,true),[]⟩,
 ⟨.bin .geq (.r 0) (.k (.int .i64 0)),some (2,true),[]⟩,
 p (.pick (.r 3) (.r 0) (.k (.bool false))),
 p (.mov (.r 0)),
 ⟨.fad 2 (.v 2),some (0,true),[]⟩,
 ⟨.load (none) (.r 0),some (1,true),[]⟩,
 ⟨.bin .leq (.r 0) (.k (.int .i64 1048576)),some (2,true),[]⟩,
 p (.pick (.r 3) (.r 0) (.k (.bool false))),
 p (.mov (.r 0)),
 ⟨.fad 3 (.v 2),some (0,true),[]⟩,
 ⟨.load (none) (.r 0),some (1,true),[]⟩,
 ⟨.bin .geq (.r 0) (.k (.int .i64 1)),some (2,true),[]⟩,
 p (.pick (.r 3) (.r 0) (.k (.bool false))),
 p (.mov (.r 0)),
 ⟨.fad 3 (.v 2),some (0,true),[]⟩,
 ⟨.load (none) (.r 0),some (1,true),[]⟩,
 ⟨.bin .leq (.r 0) (.k (.int .i64 1048576)),some (2,true),[]⟩,
 p (.pick (.r 3) (.r 0) (.k (.bool false))),
 p (.mov (.r 0))] [(4,.r 0)])
 .ret)))))
def r97:List RV:=[.t 4]
theorem en97:EnP Tryz.prog 97 53 c97 r97:=mkEnP (by kernel_rfl) Tryz.func97 (by kernel_rfl) ⟨_,rfl,by kernel_rfl,by kernel_rfl⟩
def c134:C :=
  (.seq
 (.reg false [p (.mov (.k (.bool false)))] [(0,.v 0),(1,.v 1)])
 (.seq
 (.reg false [p (.load (none) (.v 1)),
 p (.mov (.v 0)),
 p (.iad 1 (.r 1) (.r 0)),
 p (.load (none) (.r 0)),
 p (.un .not (.r 0)),
 p (.mov (.r 0))] [(3,.r 0)])
 .ret))
def r134:List RV:=[.t 3]
theorem chk134:Chk Tryz.prog Tryz.f134 c134 r134:=⟨_,rfl,by kernel_rfl,by kernel_rfl⟩
theorem ena134:EnA Tryz.prog 134 9 c134 r134:=mkEnA (by kernel_rfl) Tryz.func134 (by kernel_rfl) chk134
def c125:C :=
  (.seq
 (.reg false [p (.box 1 (.v 1)),
 p (.mov (.k (.fsl .nil 1 [])))] [(0,.v 0),(3,.r 1)])
 (.seq
 (.reg false [p (.mkf 134 [] [.v 3]),
 p (.mov (.r 0))] [(0,.v 0),(5,.r 0)])
 (.seq
 (.reg false [p (.mov (.k (.fsl .nil 1 [])))] [(0,.v 0),(5,.v 5),(6,.r 0)])
 (.seq
 (.seq
 (.reg false [p (.mov (.v 0)),
 p (.len false (.r 0)),
 p (.mov (.k (.int .i64 0)))] [(5,.v 5),(6,.v 6),(10,.r 2),(11,.r 1),(12,.r 0)])
 (.block 0
 (.loop
 (.seq
 (.reg false [p (.bin .lss (.v 12) (.v 11))] [(5,.v 5),(6,.v 6),(10,.v 10),(11,.v 11),(12,.v 12),(13,.r 0)])
 (.seq
 (.cond (.v 13)
 .skip
 (.exit 0))
 (.seq
 (.block 1
 (.seq
 (.reg false [p (.mov (.v 12)),
 p (.iad 4 (.v 10) (.v 12)),
 p (.load (some 4) (.r 0)),
 p (.alloc 4 (.agg [.fsl .nil 1 [],.int .i64 0,.int .i64 0,.int .i64 0])),
 p (.mov (.r 3)),
 p (.store (some 4) (.r 1) (.r 2))] [(5,.v 5),(6,.v 6),(7,.r 1),(8,.r 2),(10,.v 10),(11,.v 11),(12,.v 12)])
 (.seq
 (.reg false [p (.mov (.v 5)),
 p (.mov (.v 7)),
 p (.call false (.r 1) [.r 0]),
 p (.mov (.r 0)),
 ⟨.fad 0 (.v 8),some (0,true),[]⟩,
 ⟨.load (none) (.r 0),some (1,true),[]⟩,
 ⟨.mov (.v 5),some (2,true),[]⟩,
 ⟨.call false (.k (.fn 49 [] [])) [.r 1,.r 0],some (3,true),[]⟩,
 ⟨.un .not (.r 0),some (4,true),[]⟩,
 p (.pick (.r 5) (.r 0) (.k (.bool false)))] [(5,.v 5),(6,.v 6),(7,.v 7),(10,.v 10),(11,.v 11),(12,.v 12),(26,.r 0)])
 (.cond (.v 26)
 (.reg false [p (.mov (.v 6)),
 p (.mov (.v 7)),
 p (.bsl 1 [.r 0]),
 p (.app 1 8 (.r 2) (.r 0)),
 p (.mov (.r 0))] [(5,.v 5),(6,.r 0),(10,.v 10),(11,.v 11),(12,.v 12)])
 .skip))))
 (.reg false [p (.bin .add (.v 12) (.k (.int .i64 1))),
 p (.mov (.r 0))] [(5,.v 5),(6,.v 6),(10,.v 10),(11,.v 11),(12,.r 0)])))))))
 (.frz
 (.seq
 (.reg false [p (.mov (.v 6)),
 p (.mov (.r 0))] [(4,.r 0)])
 .ret))))))
def r125:List RV:=[.t 4]
theorem chk125:Chk Tryz.prog Tryz.f125 c125 r125:=⟨_,rfl,by kernel_rfl,by kernel_rfl⟩
theorem ena125:EnA Tryz.prog 125 33 c125 r125:=mkEnA (by kernel_rfl) Tryz.func125 (by kernel_rfl) chk125
def c98:C :=
  (.seq
 (.reg false [p (.mov (.k (.fsl .nil 1 [])))] [(0,.v 0)])
 (.seq
 (.reg false [p (.mov (.v 0)),
 p (.len false (.r 0)),
 p (.mks 1 1 (.bool false) (.r 0)),
 p (.mov (.r 0))] [(0,.v 0),(3,.r 0)])
 (.seq
 (.reg false [p (.mov (.k (.fsl .nil 1 [])))] [(0,.v 0),(3,.v 3),(4,.r 0)])
 (.block 0
 (.loop
 (.block 1
 (.seq
 (.reg false [p (.mov (.v 0)),
 p (.mov (.v 3)),
 p (.call false (.k (.fn 125 [] [])) [.r 1,.r 0]),
 p (.mov (.r 0))] [(0,.v 0),(3,.v 3),(4,.v 4),(5,.r 0)])
 (.seq
 (.seq
 (.reg false [p (.mov (.v 5)),
 p (.len false (.r 0)),
 p (.bin .eql (.r 0) (.k (.int .i64 0)))] [(0,.v 0),(3,.v 3),(4,.v 4),(5,.v 5),(14,.r 0)])
 (.cond (.v 14)
 (.seq
 (.reg false [p (.mov (.v 4)),
 p (.mov (.r 0))] [(2,.r 0)])
 .ret)
 .skip))
 (.seq
 (.reg false [p (.mov (.v 3)),
 p (.mov (.v 5)),
 p (.iad 1 (.r 0) (.k (.int .i64 0))),
 p (.load (none) (.r 0)),
 p (.iad 1 (.r 3) (.r 0)),
 p (.store (none) (.r 0) (.k (.bool true)))] [(0,.v 0),(3,.v 3),(4,.v 4),(5,.v 5)])
 (.reg false [p (.mov (.v 4)),
 p (.mov (.v 5)),
 p (.iad 1 (.r 0) (.k (.int .i64 0))),
 p (.load (none) (.r 0)),
 p (.bsl 1 [.r 0]),
 p (.app 1 8 (.r 4) (.r 0)),
 p (.mov (.r 0))] [(0,.v 0),(3,.v 3),(4,.r 0)]))))))))))
def r98:List RV:=[.t 2]
theorem en98:EnP Tryz.prog 98 27 c98 r98:=mkEnP (by kernel_rfl) Tryz.func98 (by kernel_rfl) ⟨_,rfl,by kernel_rfl,by kernel_rfl⟩
def c96:C :=
  (.seq
 (.reg false [p (.box 4 (.v 0)),
 p (.mov (.k (.bool false)))] [(1,.v 1),(2,.r 1)])
 (.seq
 (.reg false [p (.load (some 4) (.v 2)),
 p (.load (none) (.v 1)),
 p (.call true (.k (.fn 97 [] [])) [.r 1,.r 0]),
 p (.un .not (.r 0)),
 p (.mov (.r 0))] [(3,.r 0)])
 .ret))
def r96:List RV:=[.t 3]
theorem chk96:Chk Tryz.prog Tryz.f96 c96 r96:=⟨_,rfl,by kernel_rfl,by kernel_rfl⟩
theorem ena96:EnA Tryz.prog 96 8 c96 r96:=mkEnA (by kernel_rfl) Tryz.func96 (by kernel_rfl) chk96
def c63:C :=
  (.seq
 (.reg false [p (.box 2 (.v 0)),
 p (.mov (.k (.int .i64 0)))] [(1,.r 1)])
 (.seq
 (.reg false [p (.fad 1 (.v 1)),
 p (.load (none) (.r 0)),
 p (.len false (.r 0)),
 p (.alloc 1 (.int .i64 0)),
 p (.store (none) (.r 0) (.r 1))] [(1,.v 1),(3,.r 1)])
 (.seq
 (.block 0
 (.seq
 (.reg false [p (.load (none) (.v 3)),
 p (.bin .gtr (.r 0) (.k (.int .i64 10))),
 p (.mov (.r 0))] [(1,.v 1),(3,.v 3),(7,.r 0)])
 (.cond (.v 7)
 (.seq
 (.reg false [p (.mov (.k (.int .i64 2)))] [(2,.r 0)])
 .ret)
 (.seq
 (.reg false [p (.load (none) (.v 3)),
 p (.bin .lss (.r 0) (.k (.int .i64 1))),
 p (.mov (.r 0)),
 ⟨.fad 0 (.v 1),some (0,false),[]⟩,
 ⟨.load (none) (.r 0),some (1,false),[]⟩,
 ⟨.len true (.r 0),some (2,false),[]⟩,
 ⟨.bin .lss (.r 0) (.k (.int .i64 1)),some (3,false),[]⟩,
 p (.pick (.r 4) (.k (.bool true)) (.r 0)),
 p (.mov (.r 0)),
 ⟨.fad 0 (.v 1),some (0,false),[]⟩,
 ⟨.load (none) (.r 0),some (1,false),[]⟩,
 ⟨.len true (.r 0),some (2,false),[]⟩,
 ⟨.bin .gtr (.r 0) (.k (.int .i64 16)),some (3,false),[]⟩,
 p (.pick (.r 4) (.k (.bool true)) (.r 0)),
 p (.mov (.r 0)),
 ⟨.fad 1 (.v 1),some (0,false),[]⟩,
 ⟨.load (none) (.r 0),some (1,false),[]⟩,
 ⟨.mkf 96 [] [.v 3],some (2,false),[]⟩,
 ⟨.call false (.k (.fn 95 [] [])) [.r 1,.r 0],some (3,false),[]⟩,
 p (.pick (.r 4) (.k (.bool true)) (.r 0)),
 p (.mov (.r 0))] [(1,.v 1),(3,.v 3),(10,.r 0)])
 (.cond (.v 10)
 (.seq
 (.reg false [p (.mov (.k (.int .i64 1)))] [(2,.r 0)])
 .ret)
 (.seq
 (.reg true [p (.fad 1 (.v 1)),
 p (.load (none) (.r 0)),
 p (.call true (.k (.fn 98 [] [])) [.r 0]),
 p (.len false (.r 0)),
 p (.load (none) (.v 3)),
 p (.bin .lss (.r 1) (.r 0)),
 p (.mov (.r 0))] [(31,.r 0)])
 (.cond (.v 31)
 (.seq
 (.reg false [p (.mov (.k (.int .i64 160)))] [(2,.r 0)])
 .ret)
 .skip)))))))
 (.seq
 (.reg false [p (.mov (.k (.int .i64 0)))] [(2,.r 0)])
 .ret))))
def r63:List RV:=[.t 2]
theorem en63:EnP Tryz.prog 63 38 c63 r63:=mkEnP (by kernel_rfl) Tryz.func63 (by kernel_rfl) ⟨_,rfl,by kernel_rfl,by kernel_rfl⟩
def c90:C :=
  (.seq
 (.reg false [p (.mov (.v 1)),
 p (.mov (.v 2)),
 p (.call true (.k (.fn 120 [] [])) [.r 1,.r 0]),
 p (.mov (.r 0)),
 p (.ext (.r 0) 0),
 p (.ext (.r 1) 1),
 p (.mov (.r 1)),
 p (.mov (.r 1))] [(0,.v 0),(6,.r 1),(7,.r 0)])
 (.reg true [p (.mov (.v 0)),
 p (.mov (.v 0)),
 p (.mov (.v 0)),
 p (.nck (.r 0)),
 p (.fad 0 (.r 0)),
 p (.load (none) (.r 0)),
 p (.mov (.v 6)),
 p (.bsl 1 [.r 1,.r 0]),
 p (.call true (.k (.fn 92 [] [])) [.r 0]),
 p (.mov (.v 0)),
 p (.nck (.r 0)),
 p (.fad 1 (.r 0)),
 p (.load (none) (.r 0)),
 p (.mov (.r 0)),
 ⟨.mov (.v 7),some (0,false),[]⟩,
 ⟨.bin .neq (.r 0) (.k (.int .i64 0)),some (1,false),[]⟩,
 p (.pick (.r 2) (.k (.bool true)) (.r 0)),
 p (.nck (.r 16)),
 p (.fad 0 (.r 0)),
 p (.store (none) (.r 0) (.r 10)),
 p (.nck (.r 18)),
 p (.fad 1 (.r 0)),
 p (.store (none) (.r 0) (.r 5))] []))
def r90:List RV:=[]
theorem chk90:Chk Tryz.prog Tryz.f90 c90 r90:=⟨_,rfl,by kernel_rfl,by kernel_rfl⟩
theorem ena90:EnA Tryz.prog 90 35 c90 r90:=mkEnA (by kernel_rfl) Tryz.func90 (by kernel_rfl) chk90
def c93:C :=
  (.seq
 (.reg false [p (.mov (.v 1)),
 p (.call true (.k (.fn 121 [] [])) [.r 0]),
 p (.mov (.r 0)),
 p (.ext (.r 0) 0),
 p (.ext (.r 1) 1),
 p (.mov (.r 1)),
 p (.mov (.r 1))] [(0,.v 0),(1,.v 1),(4,.r 1),(5,.r 0)])
 (.reg true [p (.mov (.v 0)),
 p (.mov (.v 0)),
 p (.mov (.v 0)),
 p (.nck (.r 0)),
 p (.fad 0 (.r 0)),
 p (.load (none) (.r 0)),
 p (.mov (.v 4)),
 p (.bsl 1 [.r 1,.r 0]),
 p (.call true (.k (.fn 92 [] [])) [.r 0]),
 p (.mov (.v 0)),
 p (.nck (.r 0)),
 p (.fad 1 (.r 0)),
 p (.load (none) (.r 0)),
 p (.mov (.r 0)),
 ⟨.mov (.v 5),some (0,false),[]⟩,
 ⟨.bin .neq (.r 0) (.k (.int .i64 0)),some (1,false),[]⟩,
 p (.pick (.r 2) (.k (.bool true)) (.r 0)),
 p (.mov (.r 0)),
 ⟨.mov (.v 1),some (0,false),[]⟩,
 ⟨.len true (.r 0),some (1,false),[]⟩,
 ⟨.bin .gtr (.r 0) (.k (.int .i64 255)),some (2,false),[]⟩,
 p (.pick (.r 3) (.k (.bool true)) (.r 0)),
 p (.nck (.r 21)),
 p (.fad 0 (.r 0)),
 p (.store (none) (.r 0) (.r 15)),
 p (.nck (.r 23)),
 p (.fad 1 (.r 0)),
 p (.store (none) (.r 0) (.r 5))] []))
def r93:List RV:=[]
theorem chk93:Chk Tryz.prog Tryz.f93 c93 r93:=⟨_,rfl,by kernel_rfl,by kernel_rfl⟩
theorem ena93:EnA Tryz.prog 93 37 c93 r93:=mkEnA (by kernel_rfl) Tryz.func93 (by kernel_rfl) chk93
def c94:C :=
  (.seq
 (.reg false [p (.mov (.k (.str []))),
 p (.mov (.k (.int .i64 0)))] [(0,.v 0)])
 (.seq
 (.seq
 (.reg false [p (.mov (.v 0)),
 p (.nck (.r 0)),
 p (.fad 1 (.r 0)),
 p (.load (none) (.r 0))] [(0,.v 0),(7,.r 0)])
 (.cond (.v 7)
 (.seq
 (.reg false [p (.mov (.k (.str []))),
 p (.mov (.k (.int .i64 1)))] [(2,.r 1),(3,.r 0)])
 .ret)
 .skip))
 (.seq
 (.reg false [p (.mov (.v 0)),
 p (.nck (.r 0)),
 p (.fad 0 (.r 0)),
 p (.load (none) (.r 0)),
 p (.call true (.k (.fn 123 [] [])) [.r 0]),
 p (.mov (.r 0)),
 p (.mov (.k (.int .i64 0)))] [(2,.r 1),(3,.r 0)])
 .ret)))
def r94:List RV:=[.t 2,.t 3]
theorem chk94:Chk Tryz.prog Tryz.f94 c94 r94:=⟨_,rfl,by kernel_rfl,by kernel_rfl⟩
theorem ena94:EnA Tryz.prog 94 13 c94 r94:=mkEnA (by kernel_rfl) Tryz.func94 (by kernel_rfl) chk94
def c119:C :=
  (.seq
 (.reg false [p (.box 8 (.v 0)),
 p (.alloc 8 (.agg [.int .i64 0,.str [],.str [],.int .i64 0,.int .i64 0,.str [],.str [],.fsl .nil 4 []]))] [(1,.r 1),(2,.r 0)])
 (.seq
 (.reg false [p (.fad 0 (.v 1)),
 p (.load (none) (.r 0)),
 p (.build [.int .i64 0,.str [],.str [],.int .i64 0,.int .i64 0,.str [],.str [],.fsl .nil 4 []] [(0,1,.r 0)]),
 p (.alloc 8 (.agg [.int .i64 0,.str [],.str [],.int .i64 0,.int .i64 0,.str [],.str [],.fsl .nil 4 []])),
 p (.store (some 8) (.r 0) (.r 1))] [(1,.v 1),(2,.v 2),(3,.r 1)])
 (.seq
 (.seq
 (.reg false [p (.fad 0 (.v 1)),
 p (.load (none) (.r 0))] [(1,.v 1),(2,.v 2),(3,.v 3),(8,.r 0)])
 (.block 0
 (.seq
 (.reg false [p (.bin .eql (.v 8) (.k (.int .i64 1))),
 p (.mov (.r 0))] [(1,.v 1),(2,.v 2),(3,.v 3),(8,.v 8),(9,.r 0)])
 (.cond (.v 9)
 (.reg false [p (.fad 6 (.v 1)),
 p (.load (some 2) (.r 0)),
 p (.fad 6 (.v 3)),
 p (.store (some 2) (.r 0) (.r 1))] [(2,.v 2),(3,.v 3)])
 (.seq
 (.reg false [p (.bin .eql (.v 8) (.k (.int .i64 2))),
 p (.mov (.r 0))] [(1,.v 1),(2,.v 2),(3,.v 3),(8,.v 8),(14,.r 0)])
 (.cond (.v 14)
 (.reg true [p (.fad 1 (.v 1)),
 p (.load (none) (.r 0)),
 p (.fad 2 (.v 1)),
 p (.load (none) (.r 0)),
 p (.fad 1 (.v 3)),
 ⟨.store (none) (.r 0) (.r 3),none,[1]⟩,
 p (.fad 2 (.v 3)),
 p (.store (none) (.r 0) (.r 3))] [(2,.v 2),(3,.v 3)])
 (.seq
 (.seq
 (.reg false [p (.bin .eql (.v 8) (.k (.int .i64 4))),
 p (.mov (.r 0))] [(1,.v 1),(2,.v 2),(3,.v 3),(8,.v 8),(22,.r 0)])
 (.cond (.v 22)
 .skip
 (.reg false [p (.bin .eql (.v 8) (.k (.int .i64 6))),
 p (.mov (.r 0))] [(1,.v 1),(2,.v 2),(3,.v 3),(8,.v 8),(22,.r 0)])))
 (.cond (.v 22)
 (.reg false [p (.fad 3 (.v 1)),
 p (.load (none) (.r 0)),
 p (.fad 3 (.v 3)),
 p (.store (none) (.r 0) (.r 1))] [(2,.v 2),(3,.v 3)])
 (.seq
 (.reg false [p (.bin .eql (.v 8) (.k (.int .i64 5))),
 p (.mov (.r 0))] [(1,.v 1),(2,.v 2),(3,.v 3),(8,.v 8),(28,.r 0)])
 (.cond (.v 28)
 (.reg true [p (.fad 3 (.v 1)),
 p (.load (none) (.r 0)),
 p (.fad 5 (.v 1)),
 p (.load (none) (.r 0)),
 p (.fad 3 (.v 3)),
 ⟨.store (none) (.r 0) (.r 3),none,[1]⟩,
 p (.fad 5 (.v 3)),
 p (.store (none) (.r 0) (.r 3))] [(2,.v 2),(3,.v 3)])
 (.seq
 (.seq
 (.reg false [p (.bin .eql (.v 8) (.k (.int .i64 7))),
 p (.mov (.r 0))] [(1,.v 1),(2,.v 2),(3,.v 3),(8,.v 8),(36,.r 0)])
 (.cond (.v 36)
 .skip
 (.reg false [p (.bin .eql (.v 8) (.k (.int .i64 9))),
 p (.mov (.r 0))] [(1,.v 1),(2,.v 2),(3,.v 3),(8,.v 8),(36,.r 0)])))
 (.cond (.v 36)
 (.reg false [p (.fad 1 (.v 1)),
 p (.load (none) (.r 0)),
 p (.fad 1 (.v 3)),
 p (.store (none) (.r 0) (.r 1))] [(2,.v 2),(3,.v 3)])
 (.seq
 (.reg false [p (.bin .eql (.v 8) (.k (.int .i64 8))),
 p (.mov (.r 0))] [(1,.v 1),(2,.v 2),(3,.v 3),(42,.r 0)])
 (.cond (.v 42)
 (.reg false [p (.fad 4 (.v 1)),
 p (.load (none) (.r 0)),
 p (.fad 4 (.v 3)),
 p (.store (none) (.r 0) (.r 1))] [(2,.v 2),(3,.v 3)])
 .skip))))))))))))))
 (.seq
 (.reg false [p (.load (some 8) (.v 3)),
 p (.store (some 8) (.v 2) (.r 0))] [(2,.v 2)])
 .ret))))
def r119:List RV:=[.c 2 (some 8)]
theorem en119:EnP Tryz.prog 119 48 c119 r119:=mkEnP (by kernel_rfl) Tryz.func119 (by kernel_rfl) ⟨_,rfl,by kernel_rfl,by kernel_rfl⟩
def c89:C :=
  (.seq
 (.reg false [p (.box 8 (.v 0)),
 p (.mov (.k (.bool false)))] [(1,.r 1)])
 (.seq
 (.reg false [p (.load (some 8) (.v 1)),
 p (.call true (.k (.fn 119 [] [])) [.r 0]),
 p (.alloc 8 (.agg [.int .i64 0,.str [],.str [],.int .i64 0,.int .i64 0,.str [],.str [],.fsl .nil 4 []])),
 p (.store (some 8) (.r 0) (.r 1))] [(1,.v 1),(3,.r 1)])
 (.seq
 (.reg false [p (.fad 1 (.v 3)),
 p (.load (none) (.r 0)),
 p (.fad 1 (.v 1)),
 p (.load (none) (.r 0)),
 p (.bin .eql (.r 2) (.r 0)),
 p (.mov (.r 0)),
 ⟨.fad 2 (.v 3),some (0,true),[]⟩,
 ⟨.load (none) (.r 0),some (1,true),[]⟩,
 ⟨.fad 2 (.v 1),some (2,true),[]⟩,
 ⟨.load (none) (.r 0),some (3,true),[]⟩,
 ⟨.bin .eql (.r 2) (.r 0),some (4,true),[]⟩,
 p (.pick (.r 5) (.r 0) (.k (.bool false))),
 p (.mov (.r 0)),
 ⟨.fad 3 (.v 3),some (0,true),[]⟩,
 ⟨.load (none) (.r 0),some (1,true),[]⟩,
 ⟨.fad 3 (.v 1),some (2,true),[]⟩,
 ⟨.load (none) (.r 0),some (3,true),[]⟩,
 ⟨.bin .eql (.r 2) (.r 0),some (4,true),[]⟩,
 p (.pick (.r 5) (.r 0) (.k (.bool false))),
 p (.mov (.r 0)),
 ⟨.fad 4 (.v 3),some (0,true),[]⟩,
 ⟨.load (none) (.r 0),some (1,true),[]⟩,
 ⟨.fad 4 (.v 1),some (2,true),[]⟩,
 ⟨.load (none) (.r 0),some (3,true),[]⟩,
 ⟨.bin .eql (.r 2) (.r 0),some (4,true),[]⟩,
 p (.pick (.r 5) (.r 0) (.k (.bool false))),
 p (.mov (.r 0)),
 ⟨.fad 5 (.v 3),some (0,true),[]⟩,
 ⟨.load (none) (.r 0),some (1,true),[]⟩,
 ⟨.fad 5 (.v 1),some (2,true),[]⟩,
 ⟨.load (none) (.r 0),some (3,true),[]⟩,
 ⟨.bin .eql (.r 2) (.r 0),some (4,true),[]⟩,
 p (.pick (.r 5) (.r 0) (.k (.bool false))),
 p (.mov (.r 0)),
 ⟨.fad 6 (.v 3),some (0,true),[]⟩,
 ⟨.fad 0 (.r 0),some (1,true),[]⟩,
 ⟨.load (none) (.r 0),some (2,true),[]⟩,
 ⟨.fad 6 (.v 1),some (3,true),[]⟩,
 ⟨.fad 0 (.r 0),some (4,true),[]⟩,
 ⟨.load (none) (.r 0),some (5,true),[]⟩,
 ⟨.bin .eql (.r 3) (.r 0),some (6,true),[]⟩,
 p (.pick (.r 7) (.r 0) (.k (.bool false))),
 p (.mov (.r 0)),
 ⟨.fad 6 (.v 3),some (0,true),[]⟩,
 ⟨.fad 1 (.r 0),some (1,true),[]⟩,
 ⟨.load (none) (.r 0),some (2,true),[]⟩,
 ⟨.len false (.r 0),some (3,true),[]⟩,
 ⟨.fad 6 (.v 1),some (4,true),[]⟩,
 ⟨.fad 1 (.r 0),some (5,true),[]⟩,
 ⟨.load (none) (.r 0),some (6,true),[]⟩,
 ⟨.len false (.r 0),some (7,true),[]⟩,
 ⟨.bin .eql (.r 4) (.r 0),some (8,true),[]⟩,
 p (.pick (.r 9) (.r 0) (.k (.bool false))),
 p (.mov (.r 0))] [(2,.r 0)])
 .ret)))
def r89:List RV:=[.t 2]
theorem en89:EnP Tryz.prog 89 59 c89 r89:=mkEnP (by kernel_rfl) Tryz.func89 (by kernel_rfl) ⟨_,rfl,by kernel_rfl,by kernel_rfl⟩
def c62:C :=
  (.seq
 (.reg false [p (.box 8 (.v 0)),
 p (.mov (.k (.str []))),
 p (.mov (.k (.int .i64 0)))] [(1,.r 2)])
 (.seq
 (.seq
 (.reg false [p (.fad 0 (.v 1)),
 p (.load (none) (.r 0)),
 p (.bin .lss (.r 0) (.k (.int .i64 1))),
 p (.mov (.r 0)),
 ⟨.fad 0 (.v 1),some (0,false),[]⟩,
 ⟨.load (none) (.r 0),some (1,false),[]⟩,
 ⟨.bin .gtr (.r 0) (.k (.int .i64 10)),some (2,false),[]⟩,
 p (.pick (.r 3) (.k (.bool true)) (.r 0)),
 p (.mov (.r 0)),
 ⟨.load (some 8) (.v 1),some (0,false),[]⟩,
 ⟨.call true (.k (.fn 89 [] [])) [.r 0],some (1,false),[]⟩,
 ⟨.un .not (.r 0),some (2,false),[]⟩,
 p (.pick (.r 3) (.k (.bool true)) (.r 0))] [(1,.v 1),(19,.r 0)])
 (.cond (.v 19)
 (.seq
 (.reg false [p (.mov (.k (.str []))),
 p (.mov (.k (.int .i64 1)))] [(2,.r 1),(3,.r 0)])
 .ret)
 .skip))
 (.seq
 (.reg false [p (.build [.str [],.bool false] []),
 p (.box 2 (.r 0)),
 p (.mov (.r 0))] [(1,.v 1),(4,.r 0)])
 (.seq
 (.reg false [p (.mov (.v 4)),
 p (.fad 0 (.v 1)),
 p (.load (none) (.r 0)),
 p (.call false (.k (.fn 90 [] [])) [.r 2,.r 0,.k (.int .i64 1)])] [(1,.v 1),(4,.v 4)])
 (.seq
 (.seq
 (.reg false [p (.fad 0 (.v 1)),
 p (.load (none) (.r 0))] [(1,.v 1),(4,.v 4),(27,.r 0)])
 (.block 0
 (.seq
 (.reg false [p (.bin .eql (.v 27) (.k (.int .i64 1))),
 p (.mov (.r 0))] [(1,.v 1),(4,.v 4),(27,.v 27),(28,.r 0)])
 (.cond (.v 28)
 (.seq
 (.reg false [p (.fad 6 (.v 1)),
 p (.load (some 2) (.r 0)),
 p (.call true (.k (.fn 91 [] [])) [.r 0]),
 p (.mov (.r 0)),
 p (.ext (.r 0) 0),
 p (.ext (.r 1) 1),
 p (.mov (.r 1)),
 p (.mov (.r 1))] [(4,.v 4),(5,.r 1),(6,.r 0)])
 (.reg true [p (.mov (.v 4)),
 p (.mov (.v 4)),
 p (.mov (.v 4)),
 p (.nck (.r 0)),
 p (.fad 0 (.r 0)),
 p (.load (none) (.r 0)),
 p (.mov (.v 5)),
 p (.bsl 1 [.r 1,.r 0]),
 p (.call true (.k (.fn 92 [] [])) [.r 0]),
 p (.mov (.v 4)),
 p (.nck (.r 0)),
 p (.fad 1 (.r 0)),
 p (.load (none) (.r 0)),
 p (.mov (.r 0)),
 ⟨.mov (.v 6),some (0,false),[]⟩,
 ⟨.bin .neq (.r 0) (.k (.int .i64 0)),some (1,false),[]⟩,
 p (.pick (.r 2) (.k (.bool true)) (.r 0)),
 p (.nck (.r 16)),
 p (.fad 0 (.r 0)),
 p (.store (none) (.r 0) (.r 10)),
 p (.nck (.r 18)),
 p (.fad 1 (.r 0)),
 p (.store (none) (.r 0) (.r 5))] [(4,.v 4)]))
 (.seq
 (.reg false [p (.bin .eql (.v 27) (.k (.int .i64 2))),
 p (.mov (.r 0))] [(1,.v 1),(4,.v 4),(27,.v 27),(57,.r 0)])
 (.cond (.v 57)
 (.seq
 (.reg false [p (.mov (.v 4)),
 p (.fad 1 (.v 1)),
 p (.load (none) (.r 0)),
 p (.call false (.k (.fn 93 [] [])) [.r 2,.r 0])] [(1,.v 1),(4,.v 4)])
 (.reg false [p (.mov (.v 4)),
 p (.fad 2 (.v 1)),
 p (.load (none) (.r 0)),
 p (.call false (.k (.fn 93 [] [])) [.r 2,.r 0])] [(4,.v 4)]))
 (.seq
 (.seq
 (.reg false [p (.bin .eql (.v 27) (.k (.int .i64 4))),
 p (.mov (.r 0))] [(1,.v 1),(4,.v 4),(27,.v 27),(67,.r 0)])
 (.cond (.v 67)
 .skip
 (.reg false [p (.bin .eql (.v 27) (.k (.int .i64 6))),
 p (.mov (.r 0))] [(1,.v 1),(4,.v 4),(27,.v 27),(67,.r 0)])))
 (.cond (.v 67)
 (.reg false [p (.mov (.v 4)),
 p (.fad 3 (.v 1)),
 p (.load (none) (.r 0)),
 p (.call false (.k (.fn 90 [] [])) [.r 2,.r 0,.k (.int .i64 6)])] [(4,.v 4)])
 (.seq
 (.reg false [p (.bin .eql (.v 27) (.k (.int .i64 5))),
 p (.mov (.r 0))] [(1,.v 1),(4,.v 4),(27,.v 27),(74,.r 0)])
 (.cond (.v 74)
 (.seq
 (.reg false [p (.mov (.v 4)),
 p (.fad 3 (.v 1)),
 p (.load (none) (.r 0)),
 p (.call false (.k (.fn 90 [] [])) [.r 2,.r 0,.k (.int .i64 6)])] [(1,.v 1),(4,.v 4)])
 (.reg false [p (.mov (.v 4)),
 p (.fad 5 (.v 1)),
 p (.load (none) (.r 0)),
 p (.call false (.k (.fn 93 [] [])) [.r 2,.r 0])] [(4,.v 4)]))
 (.seq
 (.seq
 (.reg false [p (.bin .eql (.v 27) (.k (.int .i64 7))),
 p (.mov (.r 0))] [(1,.v 1),(4,.v 4),(27,.v 27),(84,.r 0)])
 (.cond (.v 84)
 .skip
 (.reg false [p (.bin .eql (.v 27) (.k (.int .i64 9))),
 p (.mov (.r 0))] [(1,.v 1),(4,.v 4),(27,.v 27),(84,.r 0)])))
 (.cond (.v 84)
 (.reg false [p (.mov (.v 4)),
 p (.fad 1 (.v 1)),
 p (.load (none) (.r 0)),
 p (.call false (.k (.fn 93 [] [])) [.r 2,.r 0])] [(4,.v 4)])
 (.seq
 (.reg false [p (.bin .eql (.v 27) (.k (.int .i64 8))),
 p (.mov (.r 0))] [(1,.v 1),(4,.v 4),(91,.r 0)])
 (.cond (.v 91)
 (.reg false [p (.mov (.v 4)),
 p (.fad 4 (.v 1)),
 p (.load (none) (.r 0)),
 p (.call false (.k (.fn 90 [] [])) [.r 2,.r 0,.k (.int .i64 6)])] [(4,.v 4)])
 .skip))))))))))))))
 (.seq
 (.reg false [p (.mov (.v 4)),
 p (.call false (.k (.fn 94 [] [])) [.r 0]),
 p (.ext (.r 0) 0),
 p (.ext (.r 1) 1),
 p (.mov (.r 1)),
 p (.mov (.r 1))] [(2,.r 1),(3,.r 0)])
 .ret))))))
def r62:List RV:=[.t 2,.t 3]
theorem en62:EnP Tryz.prog 62 101 c62 r62:=mkEnP (by kernel_rfl) Tryz.func62 (by kernel_rfl) ⟨_,rfl,by kernel_rfl,by kernel_rfl⟩
def c122:C :=
  (.seq
 (.reg false [p (.mov (.v 0)),
 p (.mov (.v 1)),
 p (.call true (.k (.fn 120 [] [])) [.r 1,.r 0]),
 p (.mov (.r 0)),
 p (.ext (.r 0) 0),
 p (.ext (.r 1) 1),
 p (.mov (.r 1)),
 p (.mov (.r 1))] [(2,.v 2),(5,.r 1)])
 (.reg false [p (.load (none) (.v 2)),
 p (.mov (.v 5)),
 p (.bsl 1 [.r 1,.r 0]),
 p (.call true (.k (.fn 92 [] [])) [.r 0]),
 p (.store (none) (.v 2) (.r 0))] []))
def r122:List RV:=[]
theorem chk122:Chk Tryz.prog Tryz.f122 c122 r122:=⟨_,rfl,by kernel_rfl,by kernel_rfl⟩
theorem ena122:EnA Tryz.prog 122 17 c122 r122:=mkEnA (by kernel_rfl) Tryz.func122 (by kernel_rfl) chk122
def c91:C :=
  (.seq
 (.reg false [p (.box 2 (.v 0)),
 p (.mov (.k (.str []))),
 p (.mov (.k (.int .i64 0)))] [(1,.r 2)])
 (.seq
 (.seq
 (.reg false [p (.load (some 2) (.v 1)),
 p (.call true (.k (.fn 63 [] [])) [.r 0]),
 p (.mov (.r 0))] [(1,.v 1),(4,.r 0)])
 (.seq
 (.reg false [p (.mov (.v 4)),
 p (.bin .neq (.r 0) (.k (.int .i64 0)))] [(1,.v 1),(4,.v 4),(15,.r 0)])
 (.cond (.v 15)
 (.seq
 (.reg false [p (.mov (.v 4)),
 p (.mov (.k (.str []))),
 p (.mov (.r 1))] [(2,.r 1),(3,.r 0)])
 .ret)
 .skip)))
 (.seq
 (.reg false [p (.fad 0 (.v 1)),
 p (.load (none) (.r 0)),
 p (.call true (.k (.fn 121 [] [])) [.r 0]),
 p (.mov (.r 0)),
 p (.ext (.r 0) 0),
 p (.ext (.r 1) 1),
 p (.alloc 1 (.str [])),
 p (.store (none) (.r 0) (.r 2)),
 p (.mov (.r 2))] [(1,.v 1),(5,.r 2)])
 (.seq
 (.reg false [p (.mkf 122 [] [.v 5]),
 p (.mov (.r 0))] [(1,.v 1),(5,.v 5),(7,.r 0)])
 (.seq
 (.reg false [p (.mov (.v 7)),
 p (.fad 1 (.v 1)),
 p (.load (none) (.r 0)),
 p (.len false (.r 0)),
 p (.call false (.r 3) [.r 0,.k (.int .i64 1)])] [(1,.v 1),(5,.v 5),(7,.v 7)])
 (.seq
 (.seq
 (.reg false [p (.fad 1 (.v 1)),
 p (.load (none) (.r 0)),
 p (.len false (.r 0)),
 p (.mov (.k (.int .i64 0)))] [(5,.v 5),(7,.v 7),(30,.r 2),(31,.r 1),(32,.r 0)])
 (.block 0
 (.loop
 (.seq
 (.reg false [p (.bin .lss (.v 32) (.v 31))] [(5,.v 5),(7,.v 7),(30,.v 30),(31,.v 31),(32,.v 32),(33,.r 0)])
 (.seq
 (.cond (.v 33)
 .skip
 (.exit 0))
 (.seq
 (.block 1
 (.seq
 (.reg false [p (.iad 4 (.v 30) (.v 32)),
 p (.load (some 4) (.r 0)),
 p (.alloc 4 (.agg [.fsl .nil 1 [],.int .i64 0,.int .i64 0,.int .i64 0])),
 p (.store (some 4) (.r 0) (.r 1))] [(5,.v 5),(7,.v 7),(9,.r 1),(30,.v 30),(31,.v 31),(32,.v 32)])
 (.seq
 (.reg false [p (.mov (.v 7)),
 p (.fad 0 (.v 9)),
 p (.load (none) (.r 0)),
 p (.len false (.r 0)),
 p (.call false (.r 3) [.r 0,.k (.int .i64 1)])] [(5,.v 5),(7,.v 7),(9,.v 9),(30,.v 30),(31,.v 31),(32,.v 32)])
 (.seq
 (.seq
 (.reg false [p (.fad 0 (.v 9)),
 p (.load (none) (.r 0)),
 p (.len false (.r 0)),
 p (.mov (.k (.int .i64 0)))] [(5,.v 5),(7,.v 7),(9,.v 9),(30,.v 30),(31,.v 31),(32,.v 32),(42,.r 2),(43,.r 1),(44,.r 0)])
 (.block 2
 (.loop
 (.seq
 (.reg false [p (.bin .lss (.v 44) (.v 43))] [(5,.v 5),(7,.v 7),(9,.v 9),(30,.v 30),(31,.v 31),(32,.v 32),(42,.v 42),(43,.v 43),(44,.v 44),(45,.r 0)])
 (.seq
 (.cond (.v 45)
 .skip
 (.exit 2))
 (.seq
 (.block 3
 (.seq
 (.reg false [p (.iad 1 (.v 42) (.v 44)),
 p (.load (none) (.r 0)),
 p (.mov (.r 0))] [(5,.v 5),(7,.v 7),(9,.v 9),(11,.r 0),(30,.v 30),(31,.v 31),(32,.v 32),(42,.v 42),(43,.v 43),(44,.v 44)])
 (.reg false [p (.mov (.v 7)),
 p (.mov (.v 11)),
 p (.call false (.r 1) [.r 0,.k (.int .i64 1)])] [(5,.v 5),(7,.v 7),(9,.v 9),(30,.v 30),(31,.v 31),(32,.v 32),(42,.v 42),(43,.v 43),(44,.v 44)])))
 (.reg false [p (.bin .add (.v 44) (.k (.int .i64 1))),
 p (.mov (.r 0))] [(5,.v 5),(7,.v 7),(9,.v 9),(30,.v 30),(31,.v 31),(32,.v 32),(42,.v 42),(43,.v 43),(44,.r 0)])))))))
 (.frz
 (.seq
 (.reg false [p (.mov (.v 7)),
 p (.fad 1 (.v 9)),
 p (.load (none) (.r 0)),
 p (.call false (.r 2) [.r 0,.k (.int .i64 1)])] [(5,.v 5),(7,.v 7),(9,.v 9),(30,.v 30),(31,.v 31),(32,.v 32)])
 (.seq
 (.reg false [p (.mov (.v 7)),
 p (.fad 2 (.v 9)),
 p (.load (none) (.r 0)),
 p (.call false (.r 2) [.r 0,.k (.int .i64 3)])] [(5,.v 5),(7,.v 7),(9,.v 9),(30,.v 30),(31,.v 31),(32,.v 32)])
 (.reg false [p (.mov (.v 7)),
 p (.fad 3 (.v 9)),
 p (.load (none) (.r 0)),
 p (.call false (.r 2) [.r 0,.k (.int .i64 3)])] [(5,.v 5),(7,.v 7),(30,.v 30),(31,.v 31),(32,.v 32)]))))))))
 (.frz
 (.reg false [p (.bin .add (.v 32) (.k (.int .i64 1))),
 p (.mov (.r 0))] [(5,.v 5),(7,.v 7),(30,.v 30),(31,.v 31),(32,.r 0)]))))))))
 (.frz
 (.seq
 (.reg false [p (.load (none) (.v 5)),
 p (.mov (.r 0)),
 p (.mov (.k (.int .i64 0)))] [(2,.r 1),(3,.r 0)])
 .ret))))))))
def r91:List RV:=[.t 2,.t 3]
theorem en91:EnP Tryz.prog 91 66 c91 r91:=mkEnP (by kernel_rfl) Tryz.func91 (by kernel_rfl) ⟨_,rfl,by kernel_rfl,by kernel_rfl⟩
def c80:C :=
  (.seq
 (.reg false [p (.box 2 (.v 0)),
 p (.mov (.k (.str [])))] [(1,.r 1)])
 (.seq
 (.reg false [p (.fad 0 (.v 1)),
 p (.load (none) (.r 0)),
 p (.call true (.k (.fn 109 [] [])) [.r 0]),
 p (.mov (.r 0)),
 p (.ext (.r 0) 0),
 p (.ext (.r 1) 1),
 p (.mov (.r 1)),
 p (.mov (.r 1))] [(1,.v 1),(3,.r 1)])
 (.seq
 (.reg false [p (.mov (.v 3)),
 p (.fad 1 (.v 1)),
 p (.load (none) (.r 0)),
 p (.len false (.r 0)),
 p (.call true (.k (.fn 110 [] [])) [.r 0,.k (.int .i64 1)]),
 p (.bin .add (.r 4) (.r 0)),
 p (.mov (.r 0))] [(1,.v 1),(5,.r 0)])
 (.seq
 (.seq
 (.reg false [p (.fad 1 (.v 1)),
 p (.load (none) (.r 0)),
 p (.len false (.r 0)),
 p (.mov (.k (.int .i64 0)))] [(5,.v 5),(23,.r 2),(24,.r 1),(25,.r 0)])
 (.block 0
 (.loop
 (.seq
 (.reg false [p (.bin .lss (.v 25) (.v 24))] [(5,.v 5),(23,.v 23),(24,.v 24),(25,.v 25),(26,.r 0)])
 (.seq
 (.cond (.v 26)
 .skip
 (.exit 0))
 (.seq
 (.block 1
 (.seq
 (.reg false [p (.iad 4 (.v 23) (.v 25)),
 p (.load (some 4) (.r 0)),
 p (.alloc 4 (.agg [.fsl .nil 1 [],.int .i64 0,.int .i64 0,.int .i64 0])),
 p (.store (some 4) (.r 0) (.r 1))] [(5,.v 5),(7,.r 1),(23,.v 23),(24,.v 24),(25,.v 25)])
 (.seq
 (.reg false [p (.mov (.v 5)),
 p (.fad 0 (.v 7)),
 p (.load (none) (.r 0)),
 p (.len false (.r 0)),
 p (.call true (.k (.fn 110 [] [])) [.r 0,.k (.int .i64 1)]),
 p (.bin .add (.r 4) (.r 0)),
 p (.mov (.r 0))] [(5,.r 0),(7,.v 7),(23,.v 23),(24,.v 24),(25,.v 25)])
 (.seq
 (.seq
 (.reg false [p (.fad 0 (.v 7)),
 p (.load (none) (.r 0)),
 p (.len false (.r 0)),
 p (.mov (.k (.int .i64 0)))] [(5,.v 5),(7,.v 7),(23,.v 23),(24,.v 24),(25,.v 25),(36,.r 2),(37,.r 1),(38,.r 0)])
 (.block 2
 (.loop
 (.seq
 (.reg false [p (.bin .lss (.v 38) (.v 37))] [(5,.v 5),(7,.v 7),(23,.v 23),(24,.v 24),(25,.v 25),(36,.v 36),(37,.v 37),(38,.v 38),(39,.r 0)])
 (.seq
 (.cond (.v 39)
 .skip
 (.exit 2))
 (.seq
 (.block 3
 (.seq
 (.reg false [p (.iad 1 (.v 36) (.v 38)),
 p (.load (none) (.r 0)),
 p (.mov (.r 0))] [(5,.v 5),(7,.v 7),(9,.r 0),(23,.v 23),(24,.v 24),(25,.v 25),(36,.v 36),(37,.v 37),(38,.v 38)])
 (.reg false [p (.mov (.v 5)),
 p (.mov (.v 9)),
 p (.call true (.k (.fn 110 [] [])) [.r 0,.k (.int .i64 1)]),
 p (.bin .add (.r 2) (.r 0)),
 p (.mov (.r 0))] [(5,.r 0),(7,.v 7),(23,.v 23),(24,.v 24),(25,.v 25),(36,.v 36),(37,.v 37),(38,.v 38)])))
 (.reg false [p (.bin .add (.v 38) (.k (.int .i64 1))),
 p (.mov (.r 0))] [(5,.v 5),(7,.v 7),(23,.v 23),(24,.v 24),(25,.v 25),(36,.v 36),(37,.v 37),(38,.r 0)])))))))
 (.frz
 (.reg true [p (.mov (.v 5)),
 p (.fad 1 (.v 7)),
 p (.load (none) (.r 0)),
 p (.call true (.k (.fn 110 [] [])) [.r 0,.k (.int .i64 1)]),
 p (.bin .add (.r 3) (.r 0)),
 p (.fad 2 (.v 7)),
 p (.load (none) (.r 0)),
 p (.call true (.k (.fn 110 [] [])) [.r 0,.k (.int .i64 3)]),
 p (.bin .add (.r 3) (.r 0)),
 p (.fad 3 (.v 7)),
 p (.load (none) (.r 0)),
 p (.call true (.k (.fn 110 [] [])) [.r 0,.k (.int .i64 3)]),
 p (.bin .add (.r 3) (.r 0)),
 p (.mov (.r 0))] [(5,.r 0),(23,.v 23),(24,.v 24),(25,.v 25)]))))))
 (.frz
 (.reg false [p (.bin .add (.v 25) (.k (.int .i64 1))),
 p (.mov (.r 0))] [(5,.v 5),(23,.v 23),(24,.v 24),(25,.r 0)]))))))))
 (.frz
 (.seq
 (.reg false [p (.mov (.v 5)),
 p (.mov (.r 0))] [(2,.r 0)])
 .ret))))))
def c23:C :=
  (.seq
 (.reg false [p (.mov (.k (.bool false)))] [(0,.v 0),(1,.v 1)])
 (.seq
 (.seq
 (.reg false [p (.mov (.v 0)),
 p (.len false (.r 0)),
 p (.mov (.v 1)),
 p (.len false (.r 0)),
 p (.bin .neq (.r 2) (.r 0))] [(0,.v 0),(1,.v 1),(10,.r 0)])
 (.cond (.v 10)
 (.seq
 (.reg false [p (.mov (.k (.bool false)))] [(4,.r 0)])
 .ret)
 .skip))
 (.seq
 (.seq
 (.reg false [p (.mov (.v 0)),
 p (.len false (.r 0)),
 p (.mov (.k (.int .i64 0)))] [(0,.v 0),(1,.v 1),(12,.r 1),(13,.r 0)])
 (.block 0
 (.loop
 (.seq
 (.reg false [p (.bin .lss (.v 13) (.v 12))] [(0,.v 0),(1,.v 1),(12,.v 12),(13,.v 13),(14,.r 0)])
 (.seq
 (.cond (.v 14)
 .skip
 (.exit 0))
 (.seq
 (.block 1
 (.seq
 (.reg false [p (.mov (.v 13)),
 p (.mov (.r 0))] [(0,.v 0),(1,.v 1),(5,.r 0),(12,.v 12),(13,.v 13)])
 (.seq
 (.reg true [p (.mov (.v 0)),
 p (.mov (.v 5)),
 p (.iad 1 (.r 1) (.r 0)),
 p (.load (none) (.r 0)),
 p (.mov (.v 1)),
 p (.mov (.v 5)),
 p (.iad 1 (.r 1) (.r 0)),
 p (.load (none) (.r 0)),
 p (.bin .neq (.r 4) (.r 0))] [(0,.v 0),(1,.v 1),(12,.v 12),(13,.v 13),(24,.r 0)])
 (.cond (.v 24)
 (.seq
 (.reg false [p (.mov (.k (.bool false)))] [(4,.r 0)])
 .ret)
 .skip))))
 (.reg false [p (.bin .add (.v 13) (.k (.int .i64 1))),
 p (.mov (.r 0))] [(0,.v 0),(1,.v 1),(12,.v 12),(13,.r 0)])))))))
 (.frz
 (.seq
 (.reg false [p (.mov (.k (.bool true)))] [(4,.r 0)])
 .ret)))))
def r23:List RV:=[.t 4]
theorem en23:EnP Tryz.prog 23 26 c23 r23:=mkEnP (by kernel_rfl) Tryz.func23 (by kernel_rfl) ⟨_,rfl,by kernel_rfl,by kernel_rfl⟩
def c42:C :=
  (.seq
 (.reg false [p (.box 2 (.v 0)),
 p (.box 2 (.v 1)),
 p (.mov (.k (.bool false)))] [(2,.r 2),(3,.r 1)])
 (.seq
 (.seq
 (.reg false [p (.fad 0 (.v 2)),
 p (.load (none) (.r 0)),
 p (.fad 0 (.v 3)),
 p (.load (none) (.r 0)),
 p (.bin .neq (.r 2) (.r 0)),
 p (.mov (.r 0)),
 ⟨.fad 1 (.v 2),some (0,false),[]⟩,
 ⟨.load (none) (.r 0),some (1,false),[]⟩,
 ⟨.len false (.r 0),some (2,false),[]⟩,
 ⟨.fad 1 (.v 3),some (3,false),[]⟩,
 ⟨.load (none) (.r 0),some (4,false),[]⟩,
 ⟨.len false (.r 0),some (5,false),[]⟩,
 ⟨.bin .neq (.r 3) (.r 0),some (6,false),[]⟩,
 p (.pick (.r 7) (.k (.bool true)) (.r 0))] [(2,.v 2),(3,.v 3),(21,.r 0)])
 (.cond (.v 21)
 (.seq
 (.reg false [p (.mov (.k (.bool false)))] [(4,.r 0)])
 .ret)
 .skip))
 (.seq
 (.seq
 (.reg false [p (.fad 1 (.v 2)),
 p (.load (none) (.r 0)),
 p (.len false (.r 0)),
 p (.mov (.k (.int .i64 0)))] [(3,.v 3),(23,.r 2),(24,.r 1),(25,.r 0)])
 (.block 0
 (.loop
 (.seq
 (.reg false [p (.bin .lss (.v 25) (.v 24))] [(3,.v 3),(23,.v 23),(24,.v 24),(25,.v 25),(26,.r 0)])
 (.seq
 (.cond (.v 26)
 .skip
 (.exit 0))
 (.seq
 (.block 1
 (.seq
 (.reg false [p (.mov (.v 25)),
 p (.iad 4 (.v 23) (.v 25)),
 p (.load (some 4) (.r 0)),
 p (.alloc 4 (.agg [.fsl .nil 1 [],.int .i64 0,.int .i64 0,.int .i64 0])),
 p (.mov (.r 3)),
 p (.store (some 4) (.r 1) (.r 2))] [(3,.v 3),(5,.r 1),(6,.r 2),(23,.v 23),(24,.v 24),(25,.v 25)])
 (.seq
 (.reg false [p (.fad 1 (.v 3)),
 p (.load (none) (.r 0)),
 p (.mov (.v 5)),
 p (.iad 4 (.r 1) (.r 0)),
 p (.load (some 4) (.r 0)),
 p (.alloc 4 (.agg [.fsl .nil 1 [],.int .i64 0,.int .i64 0,.int .i64 0])),
 p (.store (some 4) (.r 0) (.r 1))] [(3,.v 3),(6,.v 6),(7,.r 1),(23,.v 23),(24,.v 24),(25,.v 25)])
 (.seq
 (.reg false [p (.fad 0 (.v 6)),
 p (.load (none) (.r 0)),
 p (.fad 0 (.v 7)),
 p (.load (none) (.r 0)),
 p (.call true (.k (.fn 23 [] [])) [.r 2,.r 0]),
 p (.un .not (.r 0)),
 p (.mov (.r 0)),
 ⟨.fad 1 (.v 6),some (0,false),[]⟩,
 ⟨.load (none) (.r 0),some (1,false),[]⟩,
 ⟨.fad 1 (.v 7),some (2,false),[]⟩,
 ⟨.load (none) (.r 0),some (3,false),[]⟩,
 ⟨.bin .neq (.r 2) (.r 0),some (4,false),[]⟩,
 p (.pick (.r 5) (.k (.bool true)) (.r 0)),
 p (.mov (.r 0)),
 ⟨.fad 2 (.v 6),some (0,false),[]⟩,
 ⟨.load (none) (.r 0),some (1,false),[]⟩,
 ⟨.fad 2 (.v 7),some (2,false),[]⟩,
 ⟨.load (none) (.r 0),some (3,false),[]⟩,
 ⟨.bin .neq (.r 2) (.r 0),some (4,false),[]⟩,
 p (.pick (.r 5) (.k (.bool true)) (.r 0)),
 p (.mov (.r 0)),
 ⟨.fad 3 (.v 6),some (0,false),[]⟩,
 ⟨.load (none) (.r 0),some (1,false),[]⟩,
 ⟨.fad 3 (.v 7),some (2,false),[]⟩,
 ⟨.load (none) (.r 0),some (3,false),[]⟩,
 ⟨.bin .neq (.r 2) (.r 0),some (4,false),[]⟩,
 p (.pick (.r 5) (.k (.bool true)) (.r 0))] [(3,.v 3),(23,.v 23),(24,.v 24),(25,.v 25),(61,.r 0)])
 (.cond (.v 61)
 (.seq
 (.reg false [p (.mov (.k (.bool false)))] [(4,.r 0)])
 .ret)
 .skip)))))
 (.reg false [p (.bin .add (.v 25) (.k (.int .i64 1))),
 p (.mov (.r 0))] [(3,.v 3),(23,.v 23),(24,.v 24),(25,.r 0)])))))))
 (.frz
 (.seq
 (.reg false [p (.mov (.k (.bool true)))] [(4,.r 0)])
 .ret)))))
def r42:List RV:=[.t 4]
theorem en42:EnP Tryz.prog 42 63 c42 r42:=mkEnP (by kernel_rfl) Tryz.func42 (by kernel_rfl) ⟨_,rfl,by kernel_rfl,by kernel_rfl⟩
def c24:C :=
  (.seq
 (.reg false [p (.box 8 (.v 0)),
 p (.box 8 (.v 1)),
 p (.mov (.k (.bool false)))] [(2,.r 2),(3,.r 1)])
 (.seq
 (.reg false [p (.fad 0 (.v 2)),
 p (.load (none) (.r 0)),
 p (.fad 0 (.v 3)),
 p (.load (none) (.r 0)),
 p (.bin .eql (.r 2) (.r 0)),
 p (.mov (.r 0)),
 ⟨.fad 1 (.v 2),some (0,true),[]⟩,
 ⟨.load (none) (.r 0),some (1,true),[]⟩,
 ⟨.fad 1 (.v 3),some (2,true),[]⟩,
 ⟨.load (none) (.r 0),some (3,true),[]⟩,
 ⟨.bin .eql (.r 2) (.r 0),some (4,true),[]⟩,
 p (.pick (.r 5) (.r 0) (.k (.bool false))),
 p (.mov (.r 0)),
 ⟨.fad 2 (.v 2),some (0,true),[]⟩,
 ⟨.load (none) (.r 0),some (1,true),[]⟩,
 ⟨.fad 2 (.v 3),some (2,true),[]⟩,
 ⟨.load (none) (.r 0),some (3,true),[]⟩,
 ⟨.bin .eql (.r 2) (.r 0),some (4,true),[]⟩,
 p (.pick (.r 5) (.r 0) (.k (.bool false))),
 p (.mov (.r 0)),
 ⟨.fad 3 (.v 2),some (0,true),[]⟩,
 ⟨.load (none) (.r 0),some (1,true),[]⟩,
 ⟨.fad 3 (.v 3),some (2,true),[]⟩,
 ⟨.load (none) (.r 0),some (3,true),[]⟩,
 ⟨.bin .eql (.r 2) (.r 0),some (4,true),[]⟩,
 p (.pick (.r 5) (.r 0) (.k (.bool false))),
 p (.mov (.r 0)),
 ⟨.fad 4 (.v 2),some (0,true),[]⟩,
 ⟨.load (none) (.r 0),some (1,true),[]⟩,
 ⟨.fad 4 (.v 3),some (2,true),[]⟩,
 ⟨.load (none) (.r 0),some (3,true),[]⟩,
 ⟨.bin .eql (.r 2) (.r 0),some (4,true),[]⟩,
 p (.pick (.r 5) (.r 0) (.k (.bool false))),
 p (.mov (.r 0)),
 ⟨.fad 5 (.v 2),some (0,true),[]⟩,
 ⟨.load (none) (.r 0),some (1,true),[]⟩,
 ⟨.fad 5 (.v 3),some (2,true),[]⟩,
 ⟨.load (none) (.r 0),some (3,true),[]⟩,
 ⟨.bin .eql (.r 2) (.r 0),some (4,true),[]⟩,
 p (.pick (.r 5) (.r 0) (.k (.bool false))),
 p (.mov (.r 0)),
 ⟨.fad 6 (.v 2),some (0,true),[]⟩,
 ⟨.load (some 2) (.r 0),some (1,true),[]⟩,
 ⟨.fad 6 (.v 3),some (2,true),[]⟩,
 ⟨.load (some 2) (.r 0),some (3,true),[]⟩,
 ⟨.call true (.k (.fn 42 [] [])) [.r 2,.r 0],some (4,true),[]⟩,
 p (.pick (.r 5) (.r 0) (.k (.bool false))),
 p (.mov (.r 0))] [(4,.r 0)])
 .ret))
def r24:List RV:=[.t 4]
theorem en24:EnP Tryz.prog 24 52 c24 r24:=mkEnP (by kernel_rfl) Tryz.func24 (by kernel_rfl) ⟨_,rfl,by kernel_rfl,by kernel_rfl⟩
section
abbrev Str:=List UInt8
structure Task where
  needs:List Int
  tries:Int
  wait:Int
  lease:Int
structure Dag where
  name:Str
  tasks:List Task
structure Cmd where
  kind:Int
  key:Str
  name:Str
  token:Int
  time:Int
  text:Str
  dag:Dag
def vI (l:List Int):List V:=mv (V.int .i64) l
def vB (l:List Bool):List V:=mv V.bool l
def vS (l:List Str):List V:=mv V.str l
def taskV (t:Task):V:=.agg [.fsl .loose 1 (vI t.needs),.int .i64 t.tries,.int .i64 t.wait,.int .i64 t.lease]
def tasksV (l:List Task):V:=.fsl .loose 4 (mv taskV l)
def dagV (d:Dag):V:=.agg [.str d.name,tasksV d.tasks]
def cmdV (c:Cmd):V:=.agg [.int .i64 c.kind,.str c.key,.str c.name,.int .i64 c.token,.int .i64 c.time,.str c.text,.str c.dag.name,tasksV c.dag.tasks]
section
variable {l:List Int}
theorem vI_closed:closedL (vI l)=true:=mv_closed fun _ => rfl
theorem vB_closed {l:List Bool}:closedL (vB l)=true:=mv_closed fun _ => rfl
theorem vS_closed {l:List Str}:closedL (vS l)=true:=mv_closed fun _ => rfl
theorem vI_lo:loL (vI l)=vI l:=mv_lo fun _ => by rw [lo]
theorem vS_lo {l:List Str}:loL (vS l)=vS l:=mv_lo fun _ => by rw [lo]
end
theorem taskV_closed (t:Task):(taskV t).closed=true:=by simp [taskV,V.closed,closedL,vI_closed]
theorem taskV_lo (t:Task):lo (taskV t)=taskV t:=by simp [taskV,lo,loL,vI_lo]
theorem tasksV_closed (l:List Task):(tasksV l).closed=true:=by simp [tasksV,V.closed,mv_closed taskV_closed]
theorem tasksV_lo (l:List Task):lo (tasksV l)=tasksV l:=by simp [tasksV,lo,mv_lo taskV_lo]
theorem dagV_closed (d:Dag):(dagV d).closed=true:=by simp [dagV,V.closed,closedL,tasksV_closed]
theorem cmdV_closed (c:Cmd):(cmdV c).closed=true:=by simp [cmdV,V.closed,closedL,tasksV_closed]
/-! As arguments. -/
def yI:Ty:=.i .i64
def yIs:Ty:=.l 1 8 yI
def yTask:Ty:=.st (.cons yIs (.cons yI (.cons yI (.cons yI .nil))))
def yTasks:Ty:=.l 4 48 yTask
def fDag (r:Ty):Ty:=.cons .s (.cons yTasks r)
def i64 (n:Int):Prop:=-9223372036854775808≤n∧n≤9223372036854775807
def okTask (t:Task):Prop:=(∀ x∈t.needs,i64 x)∧t.needs.length*8≤reachBytes∧i64 t.tries∧i64 t.wait∧i64 t.lease
def okTasks (l:List Task):Prop:=l.length*48≤reachBytes∧∀ t∈l,okTask t
def okStr (s:Str):Prop:=s.length≤reachBytes
def okDag (d:Dag):Prop:=okStr d.name∧okTasks d.tasks
theorem yI_of {vs:List V} (h:TyV yI vs):∃ n,vs=[.int .i64 n]∧i64 n:=h
theorem yS_of {vs:List V} (h:TyV .s vs):∃ s,vs=[.str s]∧okStr s:=h
theorem yIs_of {vs:List V} (h:TyV yIs vs):∃ l,vs=[.fsl .loose 1 (vI l)]∧l.length*8≤reachBytes∧∀ x∈l,i64 x :=
  list_of (e:=yI) (f:=V.int .i64) (q:=i64) (fun us ⟨x,hx,hb⟩ => ⟨x,by rw [hx]; rfl,hb⟩) h
theorem yTask_of {us:List V} (h:TyV yTask us):∃ t,el yTask us=taskV t∧okTask t:=by
  obtain ⟨u1,w1,rfl,h1,u2,w2,rfl,h2,u3,w3,rfl,h3,u4,w4,rfl,h4,rfl⟩:=h
  obtain ⟨l,rfl,q1,q2⟩:=yIs_of h1
  obtain ⟨a,rfl,qa⟩:=yI_of h2
  obtain ⟨b,rfl,qb⟩:=yI_of h3
  obtain ⟨c,rfl,qc⟩:=yI_of h4
  exact ⟨⟨l,a,b,c⟩,rfl,q2,q1,qa,qb,qc⟩
theorem yTasks_of {vs:List V} (h:TyV yTasks vs):∃ l,vs=[tasksV l]∧okTasks l:=by
  obtain ⟨l,h1,h2,h3⟩:=list_of (e:=yTask) (f:=taskV) (q:=okTask) (fun us hu => yTask_of hu) h
  exact ⟨l,h1,h2,h3⟩
theorem fDag_of {r:Ty} {vs:List V} (h:TyV (fDag r) vs):∃ d ws,vs=.str d.name::tasksV d.tasks::ws∧okDag d∧TyV r ws:=by
  obtain ⟨u1,w1,rfl,h1,u2,w2,rfl,h2,h3⟩:=h
  obtain ⟨s,rfl,q1⟩:=yS_of h1
  obtain ⟨l,rfl,q2⟩:=yTasks_of h2
  exact ⟨⟨s,l⟩,w2,rfl,⟨q1,q2⟩,h3⟩
end
def riseS:Int→List Int→Int→Bool
  | _,[],_ => true
  | last,x::xs,n => !decide (x≤last) && (!decide (n≤x) && riseS x xs n)
def taskNumS (t:Task):Bool:=decide (1≤t.tries∧t.tries≤8∧0≤t.wait∧t.wait≤1048576∧1≤t.lease∧t.lease≤1048576)
def taskOkS (t:Task) (n:Int):Bool:=riseS (-1) t.needs n && taskNumS t
theorem vI_len (l:List Int):(vI l).length=l.length:=mv_len
theorem vI_get {l:List Int} {i:Nat} (h:i < l.length):(vI l)[i]?=some (.int .i64 l[i]):=mv_get h
theorem vB_get {l:List Bool} {i:Nat} (h:i < l.length):(vB l)[i]?=some (.bool l[i]):=mv_get h
theorem dag_task (t:Task) (n:Int) (hl:t.needs.length≤4611686018427387904):PCall Tryz.prog 97 [taskV t,.int .i64 n] (.bool (taskOkS t n)):=by
  refine en97 (by simp) (by simp [closedL,V.closed,taskV_closed]) ?_
  simp (maxSteps:=1000000) (disch:=omega) only [rg,gD,simprocAttr,c97,taskV,vI_len]
  refine x_it t.needs.length (fun i σ H => H.m 0=some (.arr 4 [.agg [.fsl .loose 1 (vI t.needs),.int .i64 t.tries,.int .i64 t.wait,.int .i64 t.lease]])∧∃ last,riseS (-1) t.needs n=riseS last (t.needs.drop i) n∧σ=[(1,.int .i64 n),(2,.ptr 0 0 0),(5,.int .i64 last),(9,.fsl .loose 1 (vI t.needs)),(10,.int .i64 t.needs.length),(11,.int .i64 i)]) ⟨by simp [upd],-1,by simp,rfl⟩ ?_
  rintro T i σ ⟨q,m⟩ hi ⟨e0,last,hr,rfl⟩ hN hX hR
  simp only at e0
  simp (maxSteps:=1000000) (disch:=omega) only [rg,gD,simprocAttr]
  refine ⟨fun h => ?_,fun h => ?_⟩
  · have i1:i < t.needs.length:=by omega
    have hd:t.needs.drop i=t.needs[i]::t.needs.drop (i+1):=List.drop_eq_getElem_cons i1
    rw [hd,riseS] at hr
    simp (maxSteps:=1000000) (disch:=omega) only [rg,gD,simprocAttr,vI_get]
    by_cases c1:t.needs[i]≤last
    · simp (maxSteps:=1000000) (disch:=omega) only [rg,gD,simprocAttr,c1]
      refine hR _ _ ?_
      simp (maxSteps:=1000000) (disch:=omega) only [rg,gD,simprocAttr]
      (refine fin_x rfl ?_ ?_<;>simp [pack,lo,loL,V.closed,closedL,mv_closed,taskOkS,hr,c1])
    · by_cases c2:n≤t.needs[i]
      · simp (maxSteps:=1000000) (disch:=omega) only [rg,gD,simprocAttr,c1,c2]
        refine hR _ _ ?_
        simp (maxSteps:=1000000) (disch:=omega) only [rg,gD,simprocAttr]
        (refine fin_x rfl ?_ ?_<;>simp [pack,lo,loL,V.closed,closedL,mv_closed,taskOkS,hr,c1,c2])
      · simp (maxSteps:=1000000) (disch:=omega) only [rg,gD,simprocAttr,c1,c2]
        exact hN _ _ i1 ⟨e0,t.needs[i],by rw [hr]; simp [c1,c2],rfl⟩
  · obtain rfl:i=t.needs.length:=by omega
    rw [List.drop_length,riseS] at hr
    refine hX _ _ _ ?_
    simp (maxSteps:=1000000) (disch:=omega) only [rg,gD,simprocAttr]
    refine x_frz0 ?_
    by_cases c1:1≤t.tries
    · by_cases c2:t.tries≤8
      · by_cases c3:0≤t.wait
        · by_cases c4:t.wait≤1048576
          · by_cases c5:1≤t.lease
            · by_cases c6:t.lease≤1048576
              · simp (maxSteps:=1000000) (disch:=omega) only [rg,gD,simprocAttr,e0,c1,c2,c3,c4,c5,c6]
                (refine fin_x rfl ?_ ?_<;>simp [pack,lo,loL,V.closed,closedL,mv_closed,taskOkS,taskNumS,hr,c1,c2,c3,c4,c5,c6])
              · simp (maxSteps:=1000000) (disch:=omega) only [rg,gD,simprocAttr,e0,c1,c2,c3,c4,c5,c6]
                (refine fin_x rfl ?_ ?_<;>simp [pack,lo,loL,V.closed,closedL,mv_closed,taskOkS,taskNumS,hr,c6])
            · simp (maxSteps:=1000000) (disch:=omega) only [rg,gD,simprocAttr,e0,c1,c2,c3,c4,c5]
              (refine fin_x rfl ?_ ?_<;>simp [pack,lo,loL,V.closed,closedL,mv_closed,taskOkS,taskNumS,hr,c5])
          · simp (maxSteps:=1000000) (disch:=omega) only [rg,gD,simprocAttr,e0,c1,c2,c3,c4]
            (refine fin_x rfl ?_ ?_<;>simp [pack,lo,loL,V.closed,closedL,mv_closed,taskOkS,taskNumS,hr,c4])
        · simp (maxSteps:=1000000) (disch:=omega) only [rg,gD,simprocAttr,e0,c1,c2,c3]
          (refine fin_x rfl ?_ ?_<;>simp [pack,lo,loL,V.closed,closedL,mv_closed,taskOkS,taskNumS,hr,c3])
      · simp (maxSteps:=1000000) (disch:=omega) only [rg,gD,simprocAttr,e0,c1,c2]
        (refine fin_x rfl ?_ ?_<;>simp [pack,lo,loL,V.closed,closedL,mv_closed,taskOkS,taskNumS,hr,c2])
    · simp (maxSteps:=1000000) (disch:=omega) only [rg,gD,simprocAttr,e0,c1]
      (refine fin_x rfl ?_ ?_<;>simp [pack,lo,loL,V.closed,closedL,mv_closed,taskOkS,taskNumS,hr,c1])
def freeB (t:Task) (done:List Bool) (i:Nat):Bool:=!done.getD i false && t.needs.all fun x => done.getD x.toNat false
def freeS (ts:List Task) (done:List Bool) (k:Nat):List Int:=(((ts.take k).zipIdx).filter fun p => freeB p.1 done p.2).map fun p => (p.2:Int)
theorem freeS_succ {ts:List Task} {done:List Bool} {k:Nat} (h:k < ts.length):freeS ts done (k+1)=if freeB ts[k] done k=true then freeS ts done k++[(k:Int)] else freeS ts done k:=by
  rw [freeS,List.take_succ_eq_append_getElem h,List.zipIdx_append,List.filter_append,List.map_append]
  have:min k ts.length=k:=by omega
  simp only [List.length_take,this,List.zipIdx_cons,List.zipIdx_nil,List.filter_cons,List.filter_nil,Nat.zero_add]
  split<;>simp [freeS]
theorem freeS_len (ts:List Task) (done:List Bool) (k:Nat):(freeS ts done k).length≤k:=by
  simp only [freeS,List.length_map]
  refine Nat.le_trans (List.length_filter_le _ _) ?_
  simp; omega
theorem free_clo (H:Hp) (b d:Nat) (done:List Bool) (i:Int) (hb:b < H.n) (hd:d < H.n) (h1:H.m b=some (.arr 1 [.sl d 0 done.length])) (h2:H.m d=some (.arr 1 (vB done))) (hi:0≤i∧i < done.length) :
    ACall Tryz.prog 134 [.int .i64 i,.ptr b 0 0] H [b,d] (.bool (!done.getD i.toNat false)) [] 0:=by
  have hne:b≠d:=by rintro rfl; rw [h1] at h2; cases done with
    | nil => simp [vB,mv] at h2
    | cons x l => simp [vB,mv] at h2
  refine ena134 (by simp) (by simp [lowL,V.low,hb]) (fun id hid => ?_) (by simp) ?_
  · simp at hid
    rcases hid with rfl | rfl
    · exact ⟨hb,fun o ho => by rw [h1] at ho; simp at ho; subst ho; simp [Ob.low,lowL,V.low,hd]⟩
    · exact ⟨hd,fun o ho => by rw [h2] at ho; simp at ho; subst ho; exact lowL_closed _ vB_closed⟩
  have q1:only [b,d] H.m b=some (.arr 1 [.sl d 0 done.length]):=by simp [only,h1]
  have q2:only [b,d] H.m d=some (.arr 1 (vB done)):=by simp [only,h2]
  have hlt:i.toNat < done.length:=by omega
  simp (maxSteps:=1000000) (disch:=omega) only [rg,gD,simprocAttr,c134,q1,q2,vB_get]
  refine ⟨by omega,fin_A (l:=[.bool (!done[i.toNat])]) rfl (.inl (by simp [pack,List.getD_eq_getElem?_getD,hlt])) (by simp) (fun id => .inr rfl)⟩
theorem con_ints {st:St} {rows:List Int} {fs cs:List V} {g:Nat} {q:Int→Bool} {H:Hp} {fp:List Nat} {kk:Nat} (hn:rows.length≤1000000) (hl:lowL H.n fs=true) (hl':lowL H.n cs=true) (hfp:FpOk H fp)
    (hg:∀ x∈rows,∀ H':Hp,H.n≤H'.n→(∀ id∈fp,H'.m id=H.m id)→ACall Tryz.prog g (fs++[.int .i64 x]++cs) H' fp (.bool (q x)) [] kk) :
    ACall Tryz.prog 49 [.fsl st 1 (vI rows),.fn g fs cs] H fp (.bool (rows.any q)) [] (rows.length*kk):=by
  have:=con_gen (f:=49) (f2:=61) (sz:=1) (k:=none) (st:=st) (rows:=vI rows) (fs:=fs) (cs:=cs) (g:=g) (q:=fun v => match v with | .int _ n => q n | _ => false) (H:=H) (fp:=fp) (kk:=kk)
    ena49 ena61 (by decide) (by decide) vI_closed (fun e he => by obtain ⟨a,_,rfl⟩:=mv_mem he; rfl) (by rw [vI_len]; omega) hl hl' hfp
    (fun e he H' h1 h2 => by obtain ⟨a,ha,rfl⟩:=mv_mem he; exact hg a ha H' h1 h2)
  rw [vI_len] at this
  have e:(vI rows).any (fun v => match v with | .int _ n => q n | _ => false)=rows.any q:=by simp [vI,mv,List.any_map]; rfl
  rwa [e] at this
def inR (ts:List Task) (n:Nat):Prop:=∀ t∈ts,∀ x∈t.needs,0≤x∧x < n
theorem dag_free (st:St) (ts:List Task) (done:List Bool) (d:Nat) (H:Hp) (hn:ts.length=done.length) (hl:ts.length≤10) (hnl:∀ t∈ts,t.needs.length≤1000000) (hin:inR ts done.length) (hd:d < H.n) (hm:H.m d=some (.arr 1 (vB done))) :
    ACall Tryz.prog 125 [.fsl st 4 (mv taskV ts),.sl d 0 done.length] H [d] (.fsl .loose 1 (vI (freeS ts done ts.length))) [] 100:=by
  refine ena125 (by simp) (by simp [lowL,V.low,hd,lowL_closed _ (mv_closed taskV_closed)]) (fun id hid => ?_) (by simp) ?_
  · simp at hid; subst hid
    exact ⟨hd,fun o ho => by rw [hm] at ho; simp at ho; subst ho; exact lowL_closed _ vB_closed⟩
  have q2:only [d] H.m d=some (.arr 1 (vB done)):=by simp [only,hm]
  have hdn:d≠H.n:=by omega
  simp (maxSteps:=1000000) (disch:=omega) only [rg,gD,simprocAttr,c125]
  refine x_it ts.length (fun i σ H' => H'.n≤H.n+1+2*i∧H.n+1≤H'.n∧H'.m H.n=some (.arr 1 [.sl d 0 done.length])∧H'.m d=some (.arr 1 (vB done))∧∃ v,σ=[(5,.fn 134 [] [.ptr H.n 0 0]),(6,v),(10,.fsl st 4 (mv taskV ts)),(11,.int .i64 ts.length),(12,.int .i64 i)] ∧
    ((v=.fsl .nil 1 []∧freeS ts done i=[])∨∃ id,H.n < id∧id < H'.n∧v=.sl id 0 (freeS ts done i).length∧H'.m id=some (.arr 1 (vI (freeS ts done i))))) ?_ ?_
  · exact ⟨by simp,by simp,by simp [upd],by simp only [upd_ne hdn]; exact q2,_,rfl,.inl ⟨rfl,rfl⟩⟩
  rintro T i σ ⟨n',m⟩ hi ⟨hb1,hb2,e0,e1,v,rfl,hv⟩ hN hX hR
  simp only at hb1 hb2 e0 e1 hv
  simp (maxSteps:=1000000) (disch:=omega) only [rg,gD,simprocAttr]
  refine ⟨fun h => ?_,fun h => ?_⟩
  · have i1:i < ts.length:=by omega
    have hns:=freeS_succ (done:=done) i1
    have ht:=hin ts[i] (List.getElem_mem i1)
    have hl1:=hnl ts[i] (List.getElem_mem i1)
    have hfl:=freeS_len ts done i
    have hno:∀ b:Bool,freeB ts[i] done i=false→freeS ts done (i+1)=freeS ts done i:=fun _ hb => by rw [hns,if_neg (by rw [hb]; simp)]
    have hne1:H.n≠n':=by omega
    have hne2:d≠n':=by omega
    simp (maxSteps:=1000000) (disch:=omega) only [rg,gD,simprocAttr,taskV]
    refine ⟨_,_,_,_,free_clo _ H.n d done i (by simp only []; omega) (by simp only []; omega) (by simp (disch:=omega) only [upd_eq,upd_ne,wo_0,wo_1,wo_2,e0]) (by simp (disch:=omega) only [upd_eq,upd_ne,wo_0,wo_1,wo_2,e1]) (by omega), ?_⟩
    cases hdi:done.getD i false with
    | true =>
      have hfb:freeB ts[i] done i=false:=by simp only [freeB,hdi]; rfl
      simp (maxSteps:=1000000) (disch:=omega) only [rg,gD,simprocAttr,hdi]
      refine hN _ _ i1 ⟨by simp only []; omega,by simp only []; omega,(by simp (disch:=omega) only [upd_eq,upd_ne,wo_0,wo_1,wo_2,e0]),(by simp (disch:=omega) only [upd_eq,upd_ne,wo_0,wo_1,wo_2,e1]),_,rfl, ?_⟩
      rw [hno true hfb]
      rcases hv with ⟨rfl,he⟩ | ⟨id,h1,h2,rfl,h3⟩
      · exact .inl ⟨rfl,he⟩
      · exact .inr ⟨id,h1,by simp only []; omega,rfl,(by simp (disch:=omega) only [upd_eq,upd_ne,wo_0,wo_1,wo_2,h3])⟩
    | false =>
      simp (maxSteps:=1000000) (disch:=omega) only [rg,gD,simprocAttr,hdi]
      have hall:(ts[i].needs.any fun x => !done.getD x.toNat false)=!(ts[i].needs.all fun x => done.getD x.toNat false):=by rw [List.not_all_eq_any_not]
      refine ⟨_,_,_,_,con_ints (rows:=ts[i].needs) (q:=fun x => !done.getD x.toNat false) (fp:=[H.n,d]) (kk:=0) (by omega) rfl (by simp [lowL,V.low]; omega) (fun id hid => ?_) (fun x hx H' h1 h2 => ?_), ?_⟩
      · simp at hid
        rcases hid with rfl | rfl
        · exact ⟨by simp only []; omega,fun o ho => by simp only [upd_ne hne1,e0] at ho; simp at ho; subst ho; simp [Ob.low,lowL,V.low]; omega⟩
        · exact ⟨by simp only []; omega,fun o ho => by simp only [upd_ne hne2,e1] at ho; simp at ho; subst ho; exact lowL_closed _ vB_closed⟩
      · exact free_clo H' H.n d done x (by simp only [] at h1; omega) (by simp only [] at h1; omega) (by rw [h2 _ (by simp)]; exact (by simp (disch:=omega) only [upd_eq,upd_ne,wo_0,wo_1,wo_2,e0])) (by rw [h2 _ (by simp)]; exact (by simp (disch:=omega) only [upd_eq,upd_ne,wo_0,wo_1,wo_2,e1])) (ht x hx)
      · rw [hall]
        cases ha:ts[i].needs.all fun x => done.getD x.toNat false with
        | false =>
          have hfb:freeB ts[i] done i=false:=by simp only [freeB,ha]; simp
          simp (maxSteps:=1000000) (disch:=omega) only [rg,gD,simprocAttr]
          refine hN _ _ i1 ⟨by simp only []; omega,by simp only []; omega,(by simp (disch:=omega) only [upd_eq,upd_ne,wo_0,wo_1,wo_2,e0]),(by simp (disch:=omega) only [upd_eq,upd_ne,wo_0,wo_1,wo_2,e1]),_,rfl, ?_⟩
          rw [hno true hfb]
          rcases hv with ⟨rfl,he⟩ | ⟨id,h1,h2,rfl,h3⟩
          · exact .inl ⟨rfl,he⟩
          · exact .inr ⟨id,h1,by simp only []; omega,rfl,(by simp (disch:=omega) only [upd_eq,upd_ne,wo_0,wo_1,wo_2,h3])⟩
        | true =>
          have hfb:freeB ts[i] done i=true:=by simp only [freeB,ha,hdi]; rfl
          have hs2:vI (freeS ts done i)++[.int .i64 i]=vI (freeS ts done (i+1)):=by rw [hns,if_pos hfb]; exact mv_app1
          have hl3:(freeS ts done (i+1)).length=(freeS ts done i).length+1:=by rw [hns,if_pos hfb]; simp
          have ht3:List.take (freeS ts done i).length (vI (freeS ts done i))=vI (freeS ts done i):=List.take_of_length_le (by rw [vI_len]; omega)
          rcases hv with ⟨rfl,he⟩ | ⟨id,h1,h2,rfl,h3⟩
          · simp (maxSteps:=1000000) (disch:=omega) only [rg,gD,simprocAttr,appO,Nat.mul_zero]
            refine hN _ _ i1 ⟨by simp only []; omega,by simp only []; omega,(by simp (disch:=omega) only [upd_eq,upd_ne,wo_0,wo_1,wo_2,e0]),(by simp (disch:=omega) only [upd_eq,upd_ne,wo_0,wo_1,wo_2,e1]),_,rfl,.inr ⟨n'+1,by omega,by simp,by rw [hl3,he]; rfl,by rw [← hs2,he]; simp [upd,vI,mv]⟩⟩
          · simp (maxSteps:=1000000) (disch:=omega) only [rg,gD,simprocAttr,appO,h3,hs2,ht3,vI_len,Nat.mul_zero]
            exact ⟨by omega,hN _ _ i1 ⟨by simp only []; omega,by simp only []; omega,(by simp (disch:=omega) only [upd_eq,upd_ne,wo_0,wo_1,wo_2,e0]),(by simp (disch:=omega) only [upd_eq,upd_ne,wo_0,wo_1,wo_2,e1]),_,rfl,.inr ⟨n'+1,by omega,by simp,by rw [hl3],(by simp (disch:=omega) only [upd_eq,upd_ne,wo_0,wo_1,wo_2])⟩⟩⟩
  · obtain rfl:i=ts.length:=by omega
    refine hX _ _ _ ?_
    simp (maxSteps:=1000000) (disch:=omega) only [rg,gD,simprocAttr]
    rcases hv with ⟨rfl,he⟩ | ⟨id,h1,h2,rfl,h3⟩
    · refine x_frz0 ?_
      simp (maxSteps:=1000000) (disch:=omega) only [rg,gD,simprocAttr]
      exact fin_A (l:=[.fsl .nil 1 []]) rfl (.inr (.inl (by rw [he]; rfl))) (by simp only []; omega) (fun j => by
        by_cases hj:j=d
        · subst hj; right; simp only [appd,q2,e1]
        · left; simp [appd,only,hj])
    · refine x_frz [id] ?_; simp only [vr,frz_p]; rw [frz_row (id:=id) (sz:=1) (l:=vI (freeS ts done ts.length)) (by first | assumption | (simp [upd]; done) | (simp [upd, *]; done)) (by simp) (by first | rfl | (simp [mv_len,vI_len,vI_closed]<;>omega)) (by simp [mv_closed,V.closed,vI_len,vI_closed])]
      simp (maxSteps:=1000000) (disch:=omega) only [rg,gD,simprocAttr]
      exact fin_A (l:=[.fsl .loose 1 (vI (freeS ts done ts.length))]) rfl (.inl rfl) (by simp only []; omega) (fun j => by
        by_cases hj:j=d
        · subst hj; right
          simp only [appd,q2]
          rw [wo_1 (by omega)]; exact e1.symm
        · left; simp [appd,only,hj])
def orderS (ts:List Task):Nat→List Bool→List Int→List Int
  | 0,_,out => out
  | k+1,done,out => match freeS ts done ts.length with | [] => out | i::_ => orderS ts k (done.set i.toNat true) (out++[i])
theorem freeS_mem {ts:List Task} {done:List Bool} {x:Int} (h:x∈freeS ts done ts.length):∃ i:Nat,x=i∧∃ hi:i < ts.length,freeB ts[i] done i=true:=by
  simp only [freeS,List.mem_map,List.mem_filter,List.take_length] at h
  obtain ⟨⟨t,i⟩,⟨h1,h2⟩,rfl⟩:=h
  obtain ⟨_,h3,h4⟩:=List.mem_zipIdx h1
  simp at h3 h4
  exact ⟨i,rfl,h3,by rw [← h4]; exact h2⟩
theorem freeS_full {ts:List Task} {done:List Bool} (hl:ts.length=done.length) (h:done.count true=done.length):freeS ts done ts.length=[]:=by
  cases hf:freeS ts done ts.length with
  | nil => rfl
  | cons x l =>
    obtain ⟨i,rfl,hi,hb⟩:=freeS_mem (x:=x) (by rw [hf]; simp)
    have hd:done.getD i false=true:=by
      have:=(List.count_eq_length.1 h) done[i] (List.getElem_mem (by omega))
      rw [List.getD_eq_getElem?_getD]; simp [show i < done.length by omega,← this]
    rw [freeB,hd] at hb; simp at hb
theorem count_set {done:List Bool} {i:Nat} (hi:i < done.length) (h:done.getD i false=false):(done.set i true).count true=done.count true+1:=by
  rw [List.count_set hi]
  have:done[i]=false:=by simpa [List.getD_eq_getElem?_getD,hi] using h
  simp [this]
def orderF (ts:List Task):List Int:=orderS ts (ts.length+1) (List.replicate ts.length false) []
theorem dag_order (st:St) (ts:List Task) (hl:ts.length≤10) (hnl:∀ t∈ts,t.needs.length≤1000000) (hin:inR ts ts.length):PCall Tryz.prog 98 [.fsl st 4 (mv taskV ts)] (.fsl .loose 1 (vI (orderF ts))):=by
  refine en98 (by simp) (by simp [closedL,V.closed,mv_closed taskV_closed]) ?_
  simp (maxSteps:=1000000) (disch:=omega) only [rg,gD,simprocAttr,c98]
  refine ⟨by omega, ?_⟩
  refine x_it ts.length (fun i σ H => 1≤H.n∧∃ done out v,done.length=ts.length∧done.count true=i∧out.length=i∧orderF ts=orderS ts (ts.length+1 - i) done out∧H.m 0=some (.arr 1 (vB done))∧σ=[(0,.fsl st 4 (mv taskV ts)),(3,.sl 0 0 ts.length),(4,v)] ∧
    ((v=.fsl .nil 1 []∧out=[])∨∃ id,1≤id∧id < H.n∧v=.sl id 0 out.length∧H.m id=some (.arr 1 (vI out)))) ?_ ?_
  · exact ⟨Nat.le_refl 1,List.replicate ts.length false,[],_,by simp,by simp [List.count_replicate],rfl,rfl,by simp [upd,vB,mv],rfl,.inl ⟨rfl,rfl⟩⟩
  rintro T i σ ⟨q,m⟩ hi ⟨hq,done,out,v,h1,h2,h3,h4,e0,rfl,hv⟩ hN hX hR
  simp only at hq e0 hv
  have fr:=dag_free st ts done 0 ⟨q,m⟩ (by omega) hl hnl (by rw [h1]; exact hin) hq e0
  rw [h1] at fr
  have h5:ts.length+1 - i=(ts.length - i)+1:=by omega
  rw [h5,orderS] at h4
  simp (maxSteps:=1000000) (disch:=omega) only [rg,gD,simprocAttr]
  refine ⟨_,_,_,_,fr, ?_⟩
  cases hf:freeS ts done ts.length with
  | nil =>
    rw [hf] at h4; simp only at h4
    simp (maxSteps:=1000000) (disch:=omega) only [rg,gD,simprocAttr,vI_len,Int.natCast_zero]
    refine hR _ _ ?_
    simp (maxSteps:=1000000) (disch:=omega) only [rg,gD,simprocAttr]
    rcases hv with ⟨rfl,rfl⟩ | ⟨id,g1,g2,rfl,g3⟩
    · (refine fin_x rfl ?_ ?_<;>simp [pack,lo,loL,V.closed,closedL,mv_closed,h4,vI,mv])
    · refine fin_y (v:=.fsl .loose 1 (vI out)) rfl (snap_sl g3 vI_closed (vI_len out).symm) (by simp [lo,vI_lo,h4])
  | cons x l =>
    obtain ⟨k,hk,hk1,hk2⟩:=freeS_mem (x:=x) (by rw [hf]; simp)
    subst hk
    rw [hf] at h4; simp only at h4
    simp only [freeB,Bool.and_eq_true,Bool.not_eq_true'] at hk2
    have hdk:k < done.length:=by omega
    have hc:=count_set hdk hk2.1
    have hlt:i < ts.length:=by
      rcases Nat.lt_or_ge i ts.length with h | h
      · exact h
      · have:=freeS_full (ts:=ts) (by omega) (show done.count true=done.length by omega)
        rw [this] at hf; cases hf
    have hpos:¬ ((l.length+1:Nat):Int)=0:=by omega
    have hg0:(vI ((k:Int)::l))[0]?=some (.int .i64 k):=rfl
    simp (maxSteps:=1000000) (disch:=omega) only [rg,gD,simprocAttr,vI_len,hpos,hg0,show (0:Int).toNat=0 from rfl,e0,vB_get hdk,h1]
    refine ⟨by omega, ?_⟩
    have hset:(vB done).set k (.bool true)=vB (done.set k true):=mv_set
    have e6:ts.length+1 - (i+1)=ts.length - i:=by omega
    have hl3:(out++[(k:Int)]).length=out.length+1:=by simp
    have ho:vI out++[.int .i64 k]=vI (out++[(k:Int)]):=mv_app1
    rcases hv with ⟨rfl,rfl⟩ | ⟨id,g1,g2,rfl,g3⟩
    · simp (maxSteps:=1000000) (disch:=omega) only [rg,gD,simprocAttr,appO,hset]
      exact hN _ _ hlt ⟨by simp only []; omega,done.set k true,[]++[(k:Int)],_,by simpa using h1,by rw [hc,h2],by simp at h3 ⊢; omega,by rw [e6]; simpa using h4,(by simp (disch:=omega) only [upd_eq,upd_ne,wo_0,wo_1,wo_2]),rfl,.inr ⟨q+100,by omega,by simp,rfl,by rw [← ho]; simp [upd,vI,mv]⟩⟩
    · have ht3:List.take out.length (vI out)=vI out:=List.take_of_length_le (by rw [vI_len]; omega)
      have hid:id≠0:=by omega
      simp (maxSteps:=1000000) (disch:=omega) only [rg,gD,simprocAttr,appO,hset,g3,vI_len,ht3,ho]
      exact ⟨by omega,hN _ _ hlt ⟨by simp only []; omega,done.set k true,out++[(k:Int)],_,by simpa using h1,by rw [hc,h2],by rw [hl3,h3],by rw [e6]; simpa using h4,(by simp (disch:=omega) only [upd_eq,upd_ne,wo_0,wo_1,wo_2]),rfl,.inr ⟨q+100,by omega,by simp,by rw [hl3],(by simp (disch:=omega) only [upd_eq,upd_ne,wo_0,wo_1,wo_2])⟩⟩⟩
def dagRightS (d:Dag):Int :=
  if 10 < d.tasks.length then 2 else if d.tasks.length < 1∨d.name.length < 1∨16 < d.name.length∨(d.tasks.any fun t => !taskOkS t d.tasks.length)=true then 1 else if (orderF d.tasks).length < d.tasks.length then 160 else 0
theorem rise_range:∀ {l:List Int} {last n:Int},riseS last l n=true→-1≤last→(∀ x∈l,0≤x∧x < n)∧(l.length:Int)≤max (n - 1 - last) 0
  | [],last,n,_,_ => ⟨by simp,by simp; omega⟩
  | x::xs,last,n,h,h0 => by
    simp only [riseS,Bool.and_eq_true,Bool.not_eq_true',decide_eq_false_iff_not] at h
    obtain ⟨h1,h2,h3⟩:=h
    obtain ⟨k1,k2⟩:=rise_range h3 (by omega)
    refine ⟨fun y hy => ?_,by simp; omega⟩
    rcases List.mem_cons.1 hy with rfl | hy
    · omega
    · exact k1 y hy
theorem right_clo (H:Hp) (b:Nat) (t:Task) (n:Int) (hb:b < H.n) (h1:H.m b=some (.arr 1 [.int .i64 n])) (hl:t.needs.length≤4611686018427387904) :
    ACall Tryz.prog 96 [taskV t,.ptr b 0 0] H [b] (.bool (!taskOkS t n)) [] 1:=by
  refine ena96 (by simp) (by simp [lowL,V.low,hb,V.low_closed _ (taskV_closed t)]) (fun id hid => ?_) (by simp) ?_
  · simp at hid; subst hid
    exact ⟨hb,fun o ho => by rw [h1] at ho; simp at ho; subst ho; rfl⟩
  have q1:only [b] H.m b=some (.arr 1 [.int .i64 n]):=by simp [only,h1]
  have hne:b≠H.n:=by omega
  have k:=dag_task t n hl
  unfold taskV at k ⊢
  simp (maxSteps:=1000000) (disch:=omega) only [rg,gD,simprocAttr,c96,q1]
  refine ⟨_,k, ?_⟩
  simp (maxSteps:=1000000) (disch:=omega) only [rg,gD,simprocAttr]
  refine fin_A (l:=[.bool (!taskOkS t n)]) rfl (.inl rfl) (by simp) (fun j => ?_)
  by_cases hj:j=H.n
  · subst hj; left; simp [appd,only]; omega
  · right; simp [appd,upd,hj]
def unI:V→Int
  | .int _ n => n
  | _ => 0
theorem unI_map:∀ l:List Int,(vI l).map unI=l
  | [] => rfl
  | a::l => by show a::(vI l).map unI=_; rw [unI_map l]
theorem con_tasks {st:St} {rows:List Task} {fs cs:List V} {g:Nat} {q:Task→Bool} {H:Hp} {fp:List Nat} {kk:Nat} (hn:rows.length≤1000000) (hl:lowL H.n fs=true) (hl':lowL H.n cs=true) (hfp:FpOk H fp)
    (hg:∀ x∈rows,∀ H':Hp,H.n≤H'.n→(∀ id∈fp,H'.m id=H.m id)→ACall Tryz.prog g (fs++[taskV x]++cs) H' fp (.bool (q x)) [] kk) :
    ACall Tryz.prog 95 [.fsl st 4 (mv taskV rows),.fn g fs cs] H fp (.bool (rows.any q)) [] (rows.length*kk):=by
  let un:V→Task:=fun v => match v with | .agg [.fsl _ _ l,.int _ a,.int _ b,.int _ c] => ⟨l.map unI,a,b,c⟩ | _ => ⟨[],0,0,0⟩
  have hun:∀ t,un (taskV t)=t:=fun t => by
    simp only [un,taskV]
    rw [unI_map]
  have:=con_gen (f:=95) (f2:=124) (sz:=4) (k:=some 4) (st:=st) (rows:=mv taskV rows) (fs:=fs) (cs:=cs) (g:=g) (q:=fun v => q (un v)) (H:=H) (fp:=fp) (kk:=kk)
    ena95 ena124 (by decide) (by decide) (mv_closed taskV_closed) (fun e he => by obtain ⟨a,_,rfl⟩:=mv_mem he; rfl) (by rw [mv_len]; omega) hl hl' hfp
    (fun e he H' h1 h2 => by obtain ⟨a,ha,rfl⟩:=mv_mem he; simp only [hun]; exact hg a ha H' h1 h2)
  rw [mv_len] at this
  have e:(mv taskV rows).any (fun v => q (un v))=rows.any q:=by
    rw [mv,List.any_map]; congr 1; funext t; exact congrArg q (hun t)
  rwa [e] at this
theorem dag_right (d:Dag) (hd:∀ t∈d.tasks,t.needs.length≤4611686018427387904) (hn:d.tasks.length≤4611686018427387904):PCall Tryz.prog 63 [dagV d] (.int .i64 (dagRightS d)):=by
  refine en63 (by simp) (by simp [closedL,V.closed,dagV_closed]) ?_
  simp (maxSteps:=1000000) (disch:=omega) only [rg,gD,simprocAttr,c63,dagV,tasksV]
  by_cases c0:10 < d.tasks.length
  · simp (maxSteps:=1000000) (disch:=omega) only [rg,gD,simprocAttr,show (10:Int) < d.tasks.length by omega]
    (refine fin_x rfl ?_ ?_<;>simp [pack,lo,loL,V.closed,closedL,mv_closed,dagRightS,c0])
  by_cases c1:d.tasks.length < 1
  · simp (maxSteps:=1000000) (disch:=omega) only [rg,gD,simprocAttr,show ¬ (10:Int) < d.tasks.length by omega,show (d.tasks.length:Int) < 1 by omega]
    (refine fin_x rfl ?_ ?_<;>simp [pack,lo,loL,V.closed,closedL,mv_closed,dagRightS,c0,c1])
  by_cases c2:d.name.length < 1
  · simp (maxSteps:=1000000) (disch:=omega) only [rg,gD,simprocAttr,show ¬ (10:Int) < d.tasks.length by omega,show ¬ (d.tasks.length:Int) < 1 by omega,show (d.name.length:Int) < 1 by omega]
    (refine fin_x rfl ?_ ?_<;>simp [pack,lo,loL,V.closed,closedL,mv_closed,dagRightS,c0,c2])
  by_cases c3:16 < d.name.length
  · simp (maxSteps:=1000000) (disch:=omega) only [rg,gD,simprocAttr,show ¬ (10:Int) < d.tasks.length by omega,show ¬ (d.tasks.length:Int) < 1 by omega,show ¬ (d.name.length:Int) < 1 by omega,show (16:Int) < d.name.length by omega]
    (refine fin_x rfl ?_ ?_<;>simp [pack,lo,loL,V.closed,closedL,mv_closed,dagRightS,c0,c3])
  simp (maxSteps:=1000000) (disch:=omega) only [rg,gD,simprocAttr,show ¬ (10:Int) < d.tasks.length by omega,show ¬ (d.tasks.length:Int) < 1 by omega,show ¬ (d.name.length:Int) < 1 by omega,show ¬ (16:Int) < d.name.length by omega]
  refine ⟨_,_,_,_,con_tasks (rows:=d.tasks) (q:=fun t => !taskOkS t d.tasks.length) (fp:=[1]) (kk:=1) (by omega) rfl (by simp [lowL,V.low]) (fun id hid => ?_) (fun t ht H' h1 h2 => ?_), ?_⟩
  · simp at hid; subst hid
    exact ⟨by simp,fun o ho => by simp only [upd_eq] at ho; simp at ho; subst ho; rfl⟩
  · exact right_clo H' 1 t _ (by simp only [] at h1; omega) (by rw [h2 1 (by simp)]; exact (by simp (disch:=omega) only [upd_eq,upd_ne,wo_0,wo_1,wo_2])) (hd t ht)
  cases ha:d.tasks.any fun t => !taskOkS t d.tasks.length with
  | true =>
    simp (maxSteps:=1000000) (disch:=omega) only [rg,gD,simprocAttr]
    (refine fin_x rfl ?_ ?_<;>simp [pack,lo,loL,V.closed,closedL,mv_closed,dagRightS,c0,c1,c2,c3,ha])
  | false =>
    have hall:∀ t∈d.tasks,taskOkS t d.tasks.length=true:=fun t ht => by
      have:=List.any_eq_false.1 ha t ht; simpa using this
    have hrg:∀ t∈d.tasks,(∀ x∈t.needs,0≤x∧x < d.tasks.length)∧(t.needs.length:Int)≤max ((d.tasks.length:Int) - 1 - (-1)) 0:=fun t ht => by
      have:=hall t ht
      simp only [taskOkS,Bool.and_eq_true] at this
      exact rise_range this.1 (by omega)
    simp (maxSteps:=1000000) (disch:=omega) only [rg,gD,simprocAttr]
    refine ⟨_,dag_order .loose d.tasks (by omega) (fun t ht => by have:=(hrg t ht).2; omega) (fun t ht => (hrg t ht).1), ?_⟩
    simp (maxSteps:=1000000) (disch:=omega) only [rg,gD,simprocAttr,vI_len]
    refine ⟨fun h => ?_,fun h => ?_⟩
    · (refine fin_x rfl ?_ ?_<;>simp [pack,lo,loL,V.closed,closedL,mv_closed,dagRightS,c0,c1,c2,c3,ha,show (orderF d.tasks).length < d.tasks.length by omega])
    · (refine fin_x rfl ?_ ?_<;>simp [pack,lo,loL,V.closed,closedL,mv_closed,dagRightS,c0,c1,c2,c3,ha,show ¬ (orderF d.tasks).length < d.tasks.length by omega])
def needsOf (ts:List Task) (k:Nat):List Int:=match ts[k]? with | some t => t.needs | none => []
theorem needsOf_get {ts:List Task} {k:Nat} (h:k < ts.length):needsOf ts k=ts[k].needs:=by simp [needsOf,h]
def markS (l:List Int) (o:List Bool):List Bool:=l.foldl (fun w x => w.set x.toNat true) o
theorem markS_len:∀ (l:List Int) (o:List Bool),(markS l o).length=o.length
  | [],_ => rfl
  | x::l,o => by show (markS l (o.set x.toNat true)).length=_; rw [markS_len l]; simp
def roundS (ts:List Task):Nat→List Bool→List Bool
  | 0,o => o
  | k+1,o => if (roundS ts k o).getD k false=true then markS (needsOf ts k) (roundS ts k o) else roundS ts k o
theorem roundS_len (ts:List Task):∀ (k:Nat) (o:List Bool),(roundS ts k o).length=o.length
  | 0,_ => rfl
  | k+1,o => by
    rw [roundS]; split
    · rw [markS_len,roundS_len ts k]
    · exact roundS_len ts k o
def reachK (ts:List Task) (f:Nat):Nat→List Bool
  | 0 => markS (needsOf ts f) (List.replicate ts.length false)
  | k+1 => roundS ts ts.length (reachK ts f k)
theorem reachK_len (ts:List Task) (f:Nat):∀ k,(reachK ts f k).length=ts.length
  | 0 => by simp [reachK,markS_len]
  | k+1 => by rw [reachK,roundS_len,reachK_len ts f k]
def shapedS (d:Dag):Bool:=!(decide (d.tasks.length < 1∨d.name.length < 1∨16 < d.name.length)) && d.tasks.all fun t => taskOkS t d.tasks.length
def cycK (ts:List Task) (i:Nat):Bool:=(reachK ts i ts.length).getD i false
def cycS (ts:List Task):Bool:=(List.range ts.length).any (cycK ts)
def refRightS (d:Dag):Int :=
  if 10 < d.tasks.length then 2 else if shapedS d=false then 1 else if cycS d.tasks=true then 160 else 0
def ndR (ts:List Task) (b a:Nat):Prop:=(b:Int)∈needsOf ts a
theorem gD_set {o:List Bool} {k j:Nat}:(o.set k true).getD j false=(o.getD j false || (decide (k=j) && decide (j < o.length))):=by
  simp only [List.getD_eq_getElem?_getD,List.getElem?_set]
  by_cases h:k=j
  · subst h
    by_cases h2:k < o.length
    · simp [h2]
    · simp [h2]
  · simp [h]
theorem gD_lt {o:List Bool} {j:Nat} (h:o.getD j false=true):j < o.length:=by
  rcases Nat.lt_or_ge j o.length with h' | h'
  · exact h'
  · simp [List.getD_eq_getElem?_getD,h'] at h
theorem markS_mono:∀ (l:List Int) (o:List Bool) (j:Nat),o.getD j false=true→(markS l o).getD j false=true
  | [],_,_,h => h
  | x::l,o,j,h => markS_mono l (o.set x.toNat true) j (by rw [gD_set,h]; rfl)
theorem markS_get:∀ (l:List Int) (o:List Bool) (j:Nat),j < o.length→(j:Int)∈l→(markS l o).getD j false=true
  | x::l,o,j,hj,h => by
    show (markS l (o.set x.toNat true)).getD j false=true
    rcases List.mem_cons.1 h with h | h
    · subst h
      exact markS_mono l _ j (by rw [gD_set]; simp [hj])
    · exact markS_get l _ j (by simpa using hj) h
theorem markS_only:∀ (l:List Int) (o:List Bool) (j:Nat),(∀ x∈l,0≤x)→(markS l o).getD j false=true→o.getD j false=true∨(j:Int)∈l
  | [],_,_,_,h => .inl h
  | x::l,o,j,h0,h => by
    have hx:=h0 x (by simp)
    rcases markS_only l (o.set x.toNat true) j (fun y hy => h0 y (by simp [hy])) h with h1 | h1
    · rw [gD_set] at h1
      simp only [Bool.or_eq_true,Bool.and_eq_true,decide_eq_true_eq] at h1
      rcases h1 with h1 | ⟨h1,_⟩
      · exact .inl h1
      · right; have:(j:Int)=x:=by omega
        simp [this]
    · exact .inr (by simp [h1])
theorem roundS_mono (ts:List Task):∀ (k:Nat) (o:List Bool) (j:Nat),o.getD j false=true→(roundS ts k o).getD j false=true
  | 0,_,_,h => h
  | k+1,o,j,h => by
    rw [roundS]; split
    · exact markS_mono _ _ _ (roundS_mono ts k o j h)
    · exact roundS_mono ts k o j h
theorem roundS_get (ts:List Task):∀ (m:Nat) (o:List Bool) (k j:Nat),k < m→j < o.length→o.getD k false=true→ndR ts j k→(roundS ts m o).getD j false=true
  | m+1,o,k,j,hk,hj,h,he => by
    rw [roundS]
    rcases Nat.lt_or_ge k m with h1 | h1
    · have:=roundS_get ts m o k j h1 hj h he
      split
      · exact markS_mono _ _ _ this
      · exact this
    · obtain rfl:k=m:=by omega
      rw [if_pos (roundS_mono ts k o k h)]
      exact markS_get _ _ _ (by rw [roundS_len]; exact hj) he
theorem roundS_only (ts:List Task) (h0:∀ k,∀ x∈needsOf ts k,0≤x) (G:Nat→Prop) (hG:∀ b c,G b→ndR ts c b→G c):∀ (m:Nat) (o:List Bool),(∀ j,o.getD j false=true→G j)→∀ j,(roundS ts m o).getD j false=true→G j
  | 0,_,h,j,hj => h j hj
  | m+1,o,h,j,hj => by
    have ih:=roundS_only ts h0 G hG m o h
    rw [roundS] at hj
    split at hj
    · next hm =>
      rcases markS_only _ _ _ (h0 m) hj with h1 | h1
      · exact ih j h1
      · exact hG m j (ih m hm) h1
    · exact ih j hj
theorem reachK_only (ts:List Task) (h0:∀ k,∀ x∈needsOf ts k,0≤x) (i:Nat):∀ (k j:Nat),(reachK ts i k).getD j false=true→Relation.TransGen (ndR ts) j i
  | 0,j,h => by
    rcases markS_only _ _ _ (h0 i) h with h1 | h1
    · exfalso
      have:=gD_lt h1
      simp only [List.length_replicate] at this
      simp [List.getD_eq_getElem?_getD,this] at h1
    · exact .single h1
  | k+1,j,h => roundS_only ts h0 (fun j => Relation.TransGen (ndR ts) j i) (fun b c hb hc => .trans (.single hc) hb) ts.length _ (fun j hj => reachK_only ts h0 i k j hj) j h
inductive Way (ts:List Task):Nat→Nat→Nat→Prop
  | one {a b:Nat}:ndR ts b a→Way ts 0 a b
  | more {k a b c:Nat}:Way ts k a b→ndR ts c b→Way ts (k+1) a c
theorem nd_lt {ts:List Task} (hin:∀ k,∀ x∈needsOf ts k,0≤x∧x < ts.length) {a b:Nat} (h:ndR ts b a):b < ts.length∧a < ts.length:=by
  refine ⟨by have:=hin a b h; omega, ?_⟩
  rcases Nat.lt_or_ge a ts.length with h' | h'
  · exact h'
  · simp [ndR,needsOf,h'] at h
theorem reachK_way {ts:List Task} (hin:∀ k,∀ x∈needsOf ts k,0≤x∧x < ts.length) {i:Nat}:∀ {k j:Nat},Way ts k i j→(reachK ts i k).getD j false=true
  | 0,j,.one h => markS_get _ _ _ (by simpa using (nd_lt hin h).1) h
  | k+1,j,.more hw h => by
    have:=reachK_way hin hw
    exact roundS_get ts _ _ _ _ (nd_lt hin h).2 (by rw [reachK_len]; exact (nd_lt hin h).1) this h
theorem reachK_le {ts:List Task} {i j k:Nat} (h:(reachK ts i k).getD j false=true):∀ m,k≤m→(reachK ts i m).getD j false=true:=by
  intro m hm
  obtain ⟨d,rfl⟩:=Nat.exists_eq_add_of_le hm
  induction d with
  | zero => exact h
  | succ d ih => exact roundS_mono ts _ _ _ (ih (by omega))
theorem pigeon:∀ (n:Nat) (f:Nat→Nat),(∀ k,k≤n→f k < n)→∃ a b,a < b∧b≤n∧f a=f b
  | 0,f,h => absurd (h 0 (Nat.le_refl 0)) (by omega)
  | n+1,f,h => by
    by_cases hc:∃ a,a≤n∧f a=f (n+1)
    · obtain ⟨a,h1,h2⟩:=hc
      exact ⟨a,n+1,by omega,by omega,h2⟩
    · have hc':∀ a,a≤n→f a≠f (n+1):=fun a ha he => hc ⟨a,ha,he⟩
      obtain ⟨a,b,h1,h2,h3⟩:=pigeon n (fun k => if f k=n then f (n+1) else f k) (fun k hk => by
        have:=h k (by omega)
        have:=h (n+1) (by omega)
        have:=hc' k hk
        split<;>omega)
      refine ⟨a,b,h1,by omega, ?_⟩
      have ha:=hc' a (by omega)
      have hb:=hc' b (by omega)
      split at h3<;>split at h3<;>omega
theorem acc_irr {r:Nat→Nat→Prop} {a:Nat} (h:Acc r a):¬ r a a:=by
  induction h with
  | intro a _ ih => exact fun hr => ih a hr hr
theorem orderS_acc {ts:List Task} (hin:∀ k,∀ x∈needsOf ts k,0≤x∧x < ts.length):∀ (k:Nat) (done:List Bool) (out:List Int),done.length=ts.length→ts.length < k+done.count true→out.length=done.count true→(∀ j,done.getD j false=true→Acc (ndR ts) j) →
    ∃ d:List Bool,d.length=ts.length∧freeS ts d ts.length=[]∧d.count true=(orderS ts k done out).length∧∀ j,d.getD j false=true→Acc (ndR ts) j
  | 0,done,out,h1,h2,_,_ => by have:=List.count_le_length (l:=done) (a:=true); omega
  | k+1,done,out,h1,h2,h3,h4 => by
    rw [orderS]
    cases hf:freeS ts done ts.length with
    | nil => exact ⟨done,h1,hf,h3.symm,h4⟩
    | cons x l =>
      obtain ⟨i,hx,hi,hb⟩:=freeS_mem (x:=x) (by rw [hf]; simp)
      subst hx
      simp only [freeB,Bool.and_eq_true,Bool.not_eq_true'] at hb
      have hc:=count_set (show i < done.length by omega) hb.1
      have:=orderS_acc hin k (done.set i true) (out++[(i:Int)]) (by simpa using h1) (by omega) (by simp; omega) (fun j hj => by
        rw [gD_set] at hj
        simp only [Bool.or_eq_true,Bool.and_eq_true,decide_eq_true_eq] at hj
        rcases hj with hj | ⟨rfl,_⟩
        · exact h4 j hj
        · refine Acc.intro _ fun b hbn => ?_
          have hbn':(b:Int)∈ts[i].needs:=by rwa [ndR,needsOf_get hi] at hbn
          have:=List.all_eq_true.1 hb.2 _ hbn'
          exact h4 b (by simpa using this))
      simpa using this
theorem cyc_order {ts:List Task} (hr:inR ts ts.length):cycS ts=decide ((orderF ts).length < ts.length):=by
  have hin:∀ k,∀ x∈needsOf ts k,0≤x∧x < ts.length:=fun k x hx => by
    rcases Nat.lt_or_ge k ts.length with h | h
    · rw [needsOf_get h] at hx; exact hr _ (List.getElem_mem h) x hx
    · simp [needsOf,h] at hx
  obtain ⟨d,h1,h2,h3,h4⟩:=orderS_acc hin (ts.length+1) (List.replicate ts.length false) [] (by simp) (by omega) (by simp [List.count_replicate]) (fun j hj => by
    have:=gD_lt hj; simp only [List.length_replicate] at this
    simp [List.getD_eq_getElem?_getD,this] at hj)
  have h3':d.count true=(orderF ts).length:=h3
  by_cases hlt:(orderF ts).length < ts.length
  · simp only [hlt,decide_true]
    -- one that is not done
    obtain ⟨i0,hi0,hd0⟩:∃ i,i < ts.length∧d.getD i false=false:=by
      apply Classical.byContradiction
      intro hno
      have:d.count true=d.length:=List.count_eq_length.2 (fun b hb => by
        obtain ⟨i,hi,rfl⟩:=List.mem_iff_getElem.1 hb
        cases hc:d[i] with
        | true => rfl
        | false => exact absurd ⟨i,by omega,by simp [List.getD_eq_getElem?_getD,hi,hc]⟩ hno)
      omega
    have hnext:∀ i,∃ j,(i < ts.length∧d.getD i false=false)→(j < ts.length∧d.getD j false=false∧ndR ts j i):=fun i => by
      by_cases hc:i < ts.length∧d.getD i false=false
      · obtain ⟨hi,hdi⟩:=hc
        have hnf:freeB ts[i] d i=false:=by
          cases hfb:freeB ts[i] d i with
          | false => rfl
          | true =>
            have:(i:Int)∈freeS ts d ts.length:=by
              simp only [freeS,List.mem_map,List.mem_filter,List.take_length]
              exact ⟨(ts[i],i),⟨by rw [List.mem_zipIdx_iff_getElem?]; simp [hi],hfb⟩,rfl⟩
            rw [h2] at this; cases this
        rw [freeB,hdi,Bool.not_false,Bool.true_and] at hnf
        obtain ⟨x,hx,hxd⟩:=List.all_eq_false.1 hnf
        have hxr:=hr _ (List.getElem_mem hi) x hx
        refine ⟨x.toNat,fun _ => ⟨by omega,by simpa using hxd, ?_⟩⟩
        rw [ndR,needsOf_get hi,show ((x.toNat:Nat):Int)=x by omega]; exact hx
      · exact ⟨0,fun h => absurd h hc⟩
    let nx:Nat→Nat:=fun i => Classical.choose (hnext i)
    have hnx:∀ i,(i < ts.length∧d.getD i false=false)→(nx i < ts.length∧d.getD (nx i) false=false∧ndR ts (nx i) i):=fun i => Classical.choose_spec (hnext i)
    let f:Nat→Nat:=fun k => Nat.rec i0 (fun _ r => nx r) k
    have hf:∀ k,f k < ts.length∧d.getD (f k) false=false:=fun k => by
      induction k with
      | zero => exact ⟨hi0,hd0⟩
      | succ k ih => exact ⟨(hnx (f k) ih).1,(hnx (f k) ih).2.1⟩
    have hstep:∀ k,ndR ts (f (k+1)) (f k):=fun k => (hnx (f k) (hf k)).2.2
    have hway:∀ m a,Way ts m (f a) (f (a+m+1)):=fun m => by
      induction m with
      | zero => exact fun a => .one (hstep a)
      | succ m ih => exact fun a => .more (ih a) (hstep (a+m+1))
    obtain ⟨a,b,k1,k2,k3⟩:=pigeon ts.length f (fun k _ => (hf k).1)
    have hw:=hway (b - a - 1) a
    rw [show a+(b - a - 1)+1=b by omega,← k3] at hw
    simp only [cycS,List.any_eq_true,List.mem_range]
    exact ⟨f a,(hf a).1,reachK_le (reachK_way hin hw) _ (by omega)⟩
  · simp only [hlt,decide_false]
    have hfull:d.count true=d.length:=by have:=List.count_le_length (l:=d) (a:=true); omega
    have hacc:∀ j,j < ts.length→Acc (ndR ts) j:=fun j hj => h4 j (by
      have:=List.count_eq_length.1 hfull d[j] (List.getElem_mem (by omega))
      simp [List.getD_eq_getElem?_getD,show j < d.length by omega,← this])
    simp only [cycS,List.any_eq_false,List.mem_range]
    intro j hj hc
    exact acc_irr (hacc j hj).transGen (reachK_only ts (fun k x hx => (hin k x hx).1) j _ j hc)
theorem right_same (d:Dag):refRightS d=dagRightS d:=by
  unfold refRightS dagRightS
  by_cases c0:10 < d.tasks.length
  · rw [if_pos c0,if_pos c0]
  rw [if_neg c0,if_neg c0]
  have e:shapedS d=false↔(d.tasks.length < 1∨d.name.length < 1∨16 < d.name.length∨(d.tasks.any fun t => !taskOkS t d.tasks.length)=true):=by
    have hall:(d.tasks.any fun t => !taskOkS t d.tasks.length)=!(d.tasks.all fun t => taskOkS t d.tasks.length):=by rw [List.not_all_eq_any_not]
    rw [hall,shapedS]
    cases (d.tasks.all fun t => taskOkS t d.tasks.length)
    · simp only [Bool.and_false,Bool.not_false,or_true]
    · simp only [Bool.and_true,Bool.not_true,Bool.not_eq_false',decide_eq_true_eq,Bool.false_eq_true,or_false]
  by_cases c1:shapedS d=false
  · rw [if_pos c1,if_pos (e.1 c1)]
  · rw [if_neg c1,if_neg (fun h => c1 (e.2 h))]
    have hin:inR d.tasks d.tasks.length:=fun t ht => by
      have:taskOkS t d.tasks.length=true:=by
        cases hk:taskOkS t d.tasks.length with
        | true => rfl
        | false => exact absurd (e.2 (.inr (.inr (.inr (List.any_eq_true.2 ⟨t,ht,by rw [hk]; rfl⟩))))) c1
      simp only [taskOkS,Bool.and_eq_true] at this
      exact (rise_range this.1 (by omega)).1
    rw [cyc_order hin]
    simp only [decide_eq_true_eq]
section
set_option maxRecDepth 100000
def ren_join:Go.Shelf.Ren:=⟨fun x => match x with | 156 => 44 | 165 => 59 | 166 => 25 | 169 => 29 | 240 => 43 | 241 => 84 | 276 => 58 | 277 => 113 | n => n,fun x => match x with | 31 => 52 | 9 => 9 | 3 => 3 | 4 => 4 | 0 => 0 | 20 => 20 | 72 => 62 | 76 => 65 | 70 => 59 | 37 => 60 | 75 => 64 | 127 => 82 | 164 => 90 | 5 => 5 | 80 => 69 | n => n,fun x => match x with | n => n⟩
theorem lays_join:Lays.n156 Tryz.prog ren_join where
  mixed:=by kernel_rfl
  f156:=Tryz.func44.trans (congrArg some (by kernel_rfl))
  f165:=Tryz.func59.trans (congrArg some (by kernel_rfl))
  f166:=Tryz.func25.trans (congrArg some (by kernel_rfl))
  f169:=Tryz.func29.trans (congrArg some (by kernel_rfl))
  f240:=Tryz.func43.trans (congrArg some (by kernel_rfl))
  f241:=Tryz.func84.trans (congrArg some (by kernel_rfl))
  f276:=Tryz.func58.trans (congrArg some (by kernel_rfl))
  f277:=Tryz.func113.trans (congrArg some (by kernel_rfl))
  t0:=Tryz.underlying0
  a0:=Tryz.isAgg0
  z0:=Tryz.sizeOf0
  v0:=Tryz.zeroValue0
  t3:=Tryz.underlying3
  a3:=Tryz.isAgg3
  z3:=Tryz.sizeOf3
  v3:=Tryz.zeroValue3
  t4:=Tryz.underlying4
  a4:=Tryz.isAgg4
  z4:=Tryz.sizeOf4
  v4:=Tryz.zeroValue4
  t9:=Tryz.underlying9
  a9:=Tryz.isAgg9
  z9:=Tryz.sizeOf9
  v9:=Tryz.zeroValue9
  t20:=Tryz.underlying20
  a20:=Tryz.isAgg20
  z20:=Tryz.sizeOf20
  v20:=Tryz.zeroValue20
  t31:=Tryz.underlying52
  a31:=Tryz.isAgg52
  z31:=Tryz.sizeOf52
  v31:=Tryz.zeroValue52
  t37:=Tryz.underlying60
  a37:=Tryz.isAgg60
  z37:=Tryz.sizeOf60
  v37:=Tryz.zeroValue60
  t70:=Tryz.underlying59
  a70:=Tryz.isAgg59
  z70:=Tryz.sizeOf59
  v70:=Tryz.zeroValue59
  t72:=Tryz.underlying62
  a72:=Tryz.isAgg62
  z72:=Tryz.sizeOf62
  v72:=Tryz.zeroValue62
  t75:=Tryz.underlying64
  a75:=Tryz.isAgg64
  z75:=Tryz.sizeOf64
  v75:=Tryz.zeroValue64
  t76:=Tryz.underlying65
  a76:=Tryz.isAgg65
  z76:=Tryz.sizeOf65
  v76:=Tryz.zeroValue65
  t127:=Tryz.underlying82
  a127:=Tryz.isAgg82
  z127:=Tryz.sizeOf82
  v127:=Tryz.zeroValue82
  t164:=Tryz.underlying90
  a164:=Tryz.isAgg90
  z164:=Tryz.sizeOf90
  v164:=Tryz.zeroValue90
theorem lays1_join:Builder.Extra Tryz.prog ren_join where
  sizeBuilder:=by kernel_rfl
  liesBuilder:=by kernel_rfl
  t5:=Tryz.underlying5
  a5:=Tryz.isAgg5
  z5:=Tryz.sizeOf5
  v5:=Tryz.zeroValue5
  infoByte:=by kernel_rfl
  cellsByte:=by kernel_rfl
  sizeByte:=by kernel_rfl
  neB5:=by decide
end
theorem code_join (st:St) (l:List Str) (sep:Str) (hN:l.length≤140737488355328) (hlen:(Lib.join l sep).length≤140737488355328):PCall Tryz.prog 44 [.fsl st 1 (vS l),.str sep] (.str (Lib.join l sep)) :=
  join_pcall (ρ:=ren_join) lays_join lays1_join ⟨_,Tryz.func44,by kernel_rfl,by kernel_rfl⟩ st l sep hN hlen
theorem flat_len:∀ {l:List Str} {N:Nat},(∀ s∈l,s.length≤N)→l.flatten.length≤l.length*N
  | [],_,_ => by simp
  | a::l,N,h => by
    have:=flat_len (l:=l) (N:=N) fun s hs => h s (by simp [hs])
    have:=h a (by simp)
    rw [List.flatten_cons,List.length_append,List.length_cons,Nat.add_mul]; omega
theorem code_all (st:St) (l:List Str) (hN:l.length≤1000) (hlen:∀ s∈l,s.length≤140737488355):PCall Tryz.prog 92 [.fsl st 1 (vS l)] (.str l.flatten):=by
  have hf:l.flatten.length≤140737488355328:=Nat.le_trans (flat_len hlen) (by have:=Nat.mul_le_mul_right 140737488355 hN; omega)
  refine en92 (by simp) (by simp [closedL,V.closed,vS_closed]) ?_
  simp (maxSteps:=1000000) (disch:=omega) only [rg,gD,simprocAttr,c92]
  refine ⟨_,code_join st l [] (by omega) (by rw [join_nil]; exact hf), ?_⟩
  rw [join_nil]
  simp (maxSteps:=1000000) (disch:=omega) only [rg,gD,simprocAttr]
  (refine fin_x rfl ?_ ?_<;>simp [pack,lo,loL,V.closed,closedL,mv_closed])
def u8V (l:List UInt8):List V:=mv (fun b:UInt8 => V.int .u8 b.toNat) l
theorem u8V_len (l:List UInt8):(u8V l).length=l.length:=mv_len
def beS:Nat→Nat→Str
  | 0,_ => []
  | k+1,n => beS k (n / 256)++[UInt8.ofNat (n % 256)]
theorem beS_len:∀ k n,(beS k n).length=k
  | 0,_ => rfl
  | k+1,n => by simp [beS,beS_len k]
theorem beS_get:∀ (k n j:Nat) (h:j < (beS k n).length),(beS k n)[j]=UInt8.ofNat (n / 256 ^ (k - 1 - j) % 256)
  | 0,_,j,h => by simp [beS] at h
  | k+1,n,j,h => by
    simp only [beS]
    rw [List.getElem_append]
    split
    · rename_i hj
      rw [beS_get k (n / 256) j hj]
      rw [beS_len] at hj
      rw [Nat.div_div_eq_div_mul,show k+1 - 1 - j=(k - 1 - j)+1 by omega,Nat.pow_succ,Nat.mul_comm]
    · rename_i hj
      have:(beS k (n / 256)).length=k:=beS_len _ _
      simp [beS_len] at h hj
      have:j=k:=by omega
      subst this
      simp [beS_len]
def putS (n size:Int):Str×Int:=if size < 1∨6 < size∨n < 0∨256 ^ size.toNat≤n then ([],1) else (beS size.toNat n.toNat,0)
def sV (p:Str×Int):V:=.tup [.str p.1,.int .i64 p.2]
theorem shr8 (n i:Nat) (hi:i≤6):(n:Int).fdiv (2 ^ min (8*(i:Int)).toNat 64)=((n / 256 ^ i:Nat):Int):=by
  have h:(2:Nat) ^ (8*i)=256 ^ i:=Nat.pow_mul 2 8 i
  rw [show min (8*(i:Int)).toNat 64=8*i by omega,Int.fdiv_eq_ediv_of_nonneg _ (Int.pow_nonneg (by omega)),← h]
  norm_cast
theorem wrap_u8 (m:Nat):IntKind.u8.wrap (m:Int)=((UInt8.ofNat (m % 256)).toNat:Int):=by
  simp [IntKind.wrap,IntKind.bits,IntKind.signed]
theorem code_put (n size:Int) (hn:n≤9223372036854775807):PCall Tryz.prog 120 [.int .i64 n,.int .i64 size] (sV (putS n size)):=by
  refine en120 (by simp) (by simp [closedL,V.closed]) ?_
  by_cases c1:size < 1
  · simp (maxSteps:=1000000) (disch:=omega) only [rg,gD,simprocAttr,c120,c1]
    (refine fin_x rfl ?_ ?_<;>simp [pack,lo,loL,V.closed,closedL,mv_closed,sV,putS,c1])
  by_cases c2:6 < size
  · simp (maxSteps:=1000000) (disch:=omega) only [rg,gD,simprocAttr,c120,c1,c2]
    (refine fin_x rfl ?_ ?_<;>simp [pack,lo,loL,V.closed,closedL,mv_closed,sV,putS,c2])
  by_cases c3:n < 0
  · simp (maxSteps:=1000000) (disch:=omega) only [rg,gD,simprocAttr,c120,c1,c2,c3]
    (refine fin_x rfl ?_ ?_<;>simp [pack,lo,loL,V.closed,closedL,mv_closed,sV,putS,c3])
  obtain ⟨k,rfl⟩:∃ k:Nat,size=k:=⟨size.toNat,by omega⟩
  obtain ⟨N,rfl⟩:∃ k:Nat,n=k:=⟨n.toNat,by omega⟩
  have e1:=shr8 N k (by omega)
  by_cases c4:256 ^ k≤N
  · have h0:¬ ((N / 256 ^ k:Nat):Int)=0:=by have:=Nat.div_pos c4 (Nat.pow_pos (by omega)); omega
    simp (maxSteps:=1000000) (disch:=omega) only [rg,gD,simprocAttr,c120,c1,c2,c3,IntKind.bits,e1,h0]
    refine ⟨by omega, ?_⟩
    have:(256:Int) ^ k≤N:=by exact_mod_cast c4
    (refine fin_x rfl ?_ ?_<;>simp [pack,lo,loL,V.closed,closedL,mv_closed,sV,putS,this])
  have h0:((N / 256 ^ k:Nat):Int)=0:=by rw [Nat.div_eq_of_lt (by omega)]; rfl
  have c5:¬ (256:Int) ^ k≤N:=by intro h; exact c4 (by exact_mod_cast h)
  have hput:putS N k=(beS k N,0):=by
    unfold putS; rw [if_neg (by simp only [Int.toNat_natCast]; omega)]; simp
  simp (maxSteps:=1000000) (disch:=omega) only [rg,gD,simprocAttr,c120,c1,c2,c3,IntKind.bits,e1,h0]
  refine ⟨by omega,by omega, ?_⟩
  let ct:Nat→List UInt8:=fun i => (List.range k).map fun j => if k≤i+j then UInt8.ofNat (N / 256 ^ (k - 1 - j) % 256) else 0
  refine x_it k (fun i σ H => H.n=1∧H.m 0=some (.arr 1 (u8V (ct i)))∧σ=[(0,.int .i64 N),(1,.int .i64 k),(6,.sl 0 0 k),(28,.int .i64 k),(29,.int .i64 i)]) ⟨rfl, ?_,rfl⟩ ?_
  · simp [upd,u8V,mv,ct]
    refine (List.eq_replicate_iff.2 ⟨by simp, ?_⟩).symm
    intro b hb
    obtain ⟨j,hj,rfl⟩:=List.mem_map.1 hb
    simp at hj
    simp [show ¬ k≤j by omega]
  rintro T i σ ⟨m,hm⟩ hi ⟨rfl,e0,rfl⟩ hN hX hR
  simp only at e0
  simp (maxSteps:=1000000) (disch:=omega) only [rg,gD,simprocAttr]
  refine ⟨fun h => ?_,fun h => ?_⟩
  · have h':i < k:=by omega
    have hk:k - 1 - i < (u8V (ct i)).length:=by simp [u8V_len,ct]; omega
    have hk':k - 1 - i < (ct i).length:=by simp [ct]; omega
    have hg:(u8V (ct i))[k - 1 - i]?=some (.int .u8 ((ct i)[k - 1 - i].toNat)):=mv_get hk'
    have e2:=shr8 N i (by omega)
    simp (maxSteps:=1000000) (disch:=omega) only [rg,gD,simprocAttr,e0,hg,IntKind.bits,e2,wrap_u8,V.cell,show ((k:Int) - 1 - i).toNat=k - 1 - i by omega]
    have hset:(u8V (ct i)).set (k - 1 - i) (.int .u8 (UInt8.ofNat (N / 256 ^ i % 256)).toNat)=u8V (ct (i+1)):=by
      rw [u8V,mv_set (f:=fun b:UInt8 => V.int .u8 b.toNat)]
      congr 1
      refine List.ext_getElem (by simp [ct]) fun j h1 h2 => ?_
      simp [ct] at h1
      rw [List.getElem_set]
      simp only [ct,List.getElem_map,List.getElem_range]
      by_cases hj:k - 1 - i=j
      · rw [if_pos hj,if_pos (by omega),show k - 1 - j=i by omega]
      · rw [if_neg hj]
        by_cases hk2:k≤i+j
        · rw [if_pos hk2,if_pos (by omega)]
        · rw [if_neg hk2,if_neg (by omega)]
    rw [hset]
    exact ⟨by omega,by omega,hN _ _ h' ⟨rfl,(by simp (disch:=omega) only [upd_eq,upd_ne,wo_0,wo_1,wo_2]),rfl⟩⟩
  · obtain rfl:i=k:=by omega
    refine hX _ _ _ ?_
    simp (maxSteps:=1000000) (disch:=omega) only [rg,gD,simprocAttr]
    refine x_frz0 ?_
    simp (maxSteps:=1000000) (disch:=omega) only [rg,gD,simprocAttr,e0,u8V_len]
    have hct:ct i=beS i N:=by
      refine List.ext_getElem (by simp [ct,beS_len]) fun j h1 h2 => ?_
      rw [beS_get]
      simp [ct]
    have hl:(ct i).length=i:=by simp [ct]
    refine ⟨beS i N,by rw [if_pos (by omega),List.take_of_length_le (by rw [u8V_len]; omega),hct]; rfl, ?_⟩
    simp (maxSteps:=1000000) (disch:=omega) only [rg,gD,simprocAttr]
    (refine fin_x rfl ?_ ?_<;>simp [pack,lo,loL,V.closed,closedL,mv_closed,sV,hput])
theorem putS_len (n size:Int):(putS n size).1.length≤6:=by
  unfold putS; split
  · simp
  · simp [beS_len]; omega
theorem u8_fold (s:List UInt8):(s.map fun b => V.int .u8 b.toNat)=u8V s:=rfl
theorem u8V_get {l:List UInt8} {i:Nat} (h:i < l.length):(u8V l)[i]?=some (.int .u8 l[i].toNat):=mv_get h
def textS (s:Str):Str×Int:=if 65535 < s.length then ([],2) else (beS 2 s.length++s,0)
theorem code_text (s:Str) (hs:s.length≤140737488355328):PCall Tryz.prog 121 [.str s] (sV (textS s)):=by
  refine en121 (by simp) (by simp [closedL,V.closed]) ?_
  simp (maxSteps:=1000000) (disch:=omega) only [rg,gD,simprocAttr,c121]
  refine ⟨fun h => ?_,fun h => ?_⟩
  · (refine fin_x rfl ?_ ?_<;>simp [pack,lo,loL,V.closed,closedL,mv_closed,sV,textS,show 65535 < s.length by omega])
  · refine ⟨_,code_put s.length 2 (by omega), ?_⟩
    have e:putS (s.length:Int) 2=(beS 2 s.length,0):=by
      unfold putS; rw [if_neg (by simp; omega)]; simp
    simp (maxSteps:=1000000) (disch:=omega) only [rg,gD,simprocAttr,e,sV]
    refine ⟨_,code_all .full [beS 2 s.length,s] (by simp) (by simp [beS_len]; omega), ?_⟩
    simp (maxSteps:=1000000) (disch:=omega) only [rg,gD,simprocAttr]
    (refine fin_x rfl ?_ ?_<;>simp [pack,lo,loL,V.closed,closedL,mv_closed,sV,textS,show ¬ 65535 < s.length by omega])
abbrev B32:=BitVec 32
def poly:B32:=0x82f63b78#32
def stepB (c:B32):B32:=(c >>> 1) ^^^ (if c.getLsbD 0 then poly else 0#32)
def stepsB:Nat→B32→B32
  | 0,c => c
  | n+1,c => stepB (stepsB n c)
def byte32 (b:UInt8):B32:=BitVec.ofNat 32 b.toNat
def byteB (c:B32) (b:UInt8):B32:=stepsB 8 (c ^^^ byte32 b)
def onS (c:B32) (s:Str):B32 := ~~~ (s.foldl byteB (~~~ c))
def crcS (s:Str):B32:=onS 0#32 s
def w32 (c:B32):V:=.int .u32 c.toNat
theorem wrap_32 (c:B32):IntKind.u32.wrap (c.toNat:Int)=c.toNat:=by
  have:=c.isLt
  simp [IntKind.wrap,IntKind.bits,IntKind.signed]; omega
theorem bits_xor (a b:B32):bits2 .xor .u32 (a.toNat:Int) (b.toNat:Int)=((a ^^^ b).toNat:Int):=by
  show IntKind.u32.wrap (((BitVec.ofInt 32 (a.toNat:Int) ^^^ BitVec.ofInt 32 (b.toNat:Int)):BitVec 32).toNat:Int)=_
  rw [BitVec.ofInt_natCast,BitVec.ofInt_natCast,BitVec.ofNat_toNat,BitVec.ofNat_toNat,BitVec.setWidth_eq,BitVec.setWidth_eq]
  exact wrap_32 _
theorem bits_and (a b:B32):bits2 .and .u32 (a.toNat:Int) (b.toNat:Int)=((a &&& b).toNat:Int):=by
  show IntKind.u32.wrap (((BitVec.ofInt 32 (a.toNat:Int) &&& BitVec.ofInt 32 (b.toNat:Int)):BitVec 32).toNat:Int)=_
  rw [BitVec.ofInt_natCast,BitVec.ofInt_natCast,BitVec.ofNat_toNat,BitVec.ofNat_toNat,BitVec.setWidth_eq,BitVec.setWidth_eq]
  exact wrap_32 _
theorem low_bit (c:B32):(c &&& 1#32)=if c.getLsbD 0 then 1#32 else 0#32:=by
  apply BitVec.eq_of_toNat_eq
  have h:c.getLsbD 0=decide (c.toNat % 2=1):=by simp [BitVec.getLsbD,Nat.testBit_zero]
  rw [h]
  simp only [BitVec.toNat_and,BitVec.toNat_ofNat]
  have:c.toNat &&& 1=c.toNat % 2:=Nat.and_one_is_mod _
  by_cases k:c.toNat % 2=1
  · simp [k,this]
  · simp [k,this]; omega
theorem neg_bit (c:B32):IntKind.u32.wrap (0 - ((c &&& 1#32).toNat:Int))=((if c.getLsbD 0 then BitVec.allOnes 32 else 0#32).toNat:Int):=by
  rw [low_bit]
  cases c.getLsbD 0<;>rfl
theorem half (c:B32):((c.toNat:Int).fdiv (2 ^ min 1 32))=((c >>> 1).toNat:Int):=by
  simp [Nat.shiftRight_eq_div_pow,Int.fdiv_eq_ediv_of_nonneg]
theorem step_eq (c:B32):((c >>> 1) ^^^ (poly &&& (if c.getLsbD 0 then BitVec.allOnes 32 else 0#32)))=stepB c:=by
  unfold stepB
  cases c.getLsbD 0
  · show (c >>> 1) ^^^ (poly &&& 0#32)=_; rw [BitVec.and_zero]; rfl
  · show (c >>> 1) ^^^ (poly &&& BitVec.allOnes 32)=_; rw [BitVec.and_allOnes]; rfl
theorem byte_cast (b:UInt8):IntKind.u32.wrap (b.toNat:Int)=((byte32 b).toNat:Int):=by
  have:=b.toNat_lt
  simp [byte32,IntKind.wrap,IntKind.bits,IntKind.signed]; omega
theorem not_32 (c:B32):bits2 .xor .u32 (4294967295:Int) (c.toNat:Int)=((~~~ c).toNat:Int):=by
  rw [show (4294967295:Int)=((BitVec.allOnes 32).toNat:Int) from rfl,bits_xor,BitVec.allOnes_xor]
theorem max_32:(2 ^ 32 - 1:Int)=4294967295:=rfl
theorem sum_on (c:B32) (s:Str) (hs:s.length≤1000000000):PCall Tryz.prog 135 [w32 c,.str s] (w32 (onS c s)):=by
  refine en135 (by simp) (by simp [closedL,V.closed,w32]) ?_
  simp (maxSteps:=1000000) (disch:=omega) only [rg,gD,Nat.reduceBEq,Nat.reduceEqDiff,Nat.reduceAdd,Int.reduceEq,Int.reduceLT,Int.reduceLE,Int.reduceToNat,reduceIte,reduceCtorEq,Nat.reduceLeDiff,Nat.reduceLT,Nat.reduceMul,Nat.reduceSub,c135,w32,u8_fold,u8V_len,IntKind.signed,IntKind.max,IntKind.bits,max_32,not_32]
  refine x_itp s.length (fun _ => True) (fun i => [(5,.int .u32 (((s.take i).foldl byteB (~~~ c)).toNat)),(11,.fsl .loose 1 (u8V s)),(12,.int .i64 s.length),(13,.int .i64 i)]) trivial rfl ?_
  intro T i hi _ hN hX hR
  simp (maxSteps:=1000000) (disch:=omega) only [rg,gD,Nat.reduceBEq,Nat.reduceEqDiff,Nat.reduceAdd,Int.reduceEq,Int.reduceLT,Int.reduceLE,Int.reduceToNat,reduceIte,reduceCtorEq,Nat.reduceLeDiff,Nat.reduceLT,Nat.reduceMul,Nat.reduceSub]
  refine ⟨fun h => ?_,fun h => ?_⟩
  · have i1:i < s.length:=by omega
    simp (maxSteps:=1000000) (disch:=omega) only [rg,gD,Nat.reduceBEq,Nat.reduceEqDiff,Nat.reduceAdd,Int.reduceEq,Int.reduceLT,Int.reduceLE,Int.reduceToNat,reduceIte,reduceCtorEq,Nat.reduceLeDiff,Nat.reduceLT,Nat.reduceMul,Nat.reduceSub,u8V_get,byte_cast,bits_xor]
    refine x_itp 8 (fun _ => True) (fun j => [(5,.int .u32 ((stepsB j (((s.take i).foldl byteB (~~~ c)) ^^^ byte32 s[i])).toNat)),(11,.fsl .loose 1 (u8V s)),(12,.int .i64 s.length),(13,.int .i64 i),(21,.int .i64 j)]) trivial rfl ?_
    intro T2 j hj _ hN2 hX2 hR2
    have hstep:stepsB (j+1) (((s.take i).foldl byteB (~~~ c)) ^^^ byte32 s[i])=stepB (stepsB j (((s.take i).foldl byteB (~~~ c)) ^^^ byte32 s[i])):=rfl
    generalize hd:stepsB j (((s.take i).foldl byteB (~~~ c)) ^^^ byte32 s[i])=d at hstep ⊢
    have e1:bits2 .and .u32 (d.toNat:Int) 1=((d &&& 1#32).toNat:Int):=bits_and d 1#32
    have e2:=half d
    have e3:∀ x:B32,bits2 .and .u32 2197175160 (x.toNat:Int)=((poly &&& x).toNat:Int):=fun x => bits_and poly x
    simp (maxSteps:=1000000) (disch:=omega) only [rg,gD,Nat.reduceBEq,Nat.reduceEqDiff,Nat.reduceAdd,Int.reduceEq,Int.reduceLT,Int.reduceLE,Int.reduceToNat,reduceIte,reduceCtorEq,Nat.reduceLeDiff,Nat.reduceLT,Nat.reduceMul,Nat.reduceSub]
    refine ⟨fun h2 => ?_,fun h2 => ?_⟩
    · simp (maxSteps:=1000000) (disch:=omega) only [rg,gD,Nat.reduceBEq,Nat.reduceEqDiff,Nat.reduceAdd,Int.reduceEq,Int.reduceLT,Int.reduceLE,Int.reduceToNat,reduceIte,reduceCtorEq,Nat.reduceLeDiff,Nat.reduceLT,Nat.reduceMul,Nat.reduceSub,e1,neg_bit,e3,IntKind.bits,show (1:Int).toNat=1 from rfl,e2,bits_xor,step_eq]
      exact hN2 _ (by omega) trivial (by rw [hstep]; rfl)
    · obtain rfl:j=8:=by omega
      refine hX2 _ _ _ ?_
      simp (maxSteps:=1000000) (disch:=omega) only [rg,gD,Nat.reduceBEq,Nat.reduceEqDiff,Nat.reduceAdd,Int.reduceEq,Int.reduceLT,Int.reduceLE,Int.reduceToNat,reduceIte,reduceCtorEq,Nat.reduceLeDiff,Nat.reduceLT,Nat.reduceMul,Nat.reduceSub]
      refine x_frz0 ?_
      simp (maxSteps:=1000000) (disch:=omega) only [rg,gD,Nat.reduceBEq,Nat.reduceEqDiff,Nat.reduceAdd,Int.reduceEq,Int.reduceLT,Int.reduceLE,Int.reduceToNat,reduceIte,reduceCtorEq,Nat.reduceLeDiff,Nat.reduceLT,Nat.reduceMul,Nat.reduceSub]
      refine hN _ i1 trivial ?_
      rw [List.take_succ_eq_append_getElem i1,List.foldl_append]
      show _=[(5,V.int .u32 ((byteB _ s[i]).toNat:Int)),_,_,_]
      rw [byteB,hd]
      rfl
  · obtain rfl:i=s.length:=by omega
    rw [List.take_length]
    refine hX _ _ _ ?_
    simp (maxSteps:=1000000) (disch:=omega) only [rg,gD,Nat.reduceBEq,Nat.reduceEqDiff,Nat.reduceAdd,Int.reduceEq,Int.reduceLT,Int.reduceLE,Int.reduceToNat,reduceIte,reduceCtorEq,Nat.reduceLeDiff,Nat.reduceLT,Nat.reduceMul,Nat.reduceSub]
    refine x_frz0 ?_
    simp (maxSteps:=1000000) (disch:=omega) only [rg,gD,Nat.reduceBEq,Nat.reduceEqDiff,Nat.reduceAdd,Int.reduceEq,Int.reduceLT,Int.reduceLE,Int.reduceToNat,reduceIte,reduceCtorEq,Nat.reduceLeDiff,Nat.reduceLT,Nat.reduceMul,Nat.reduceSub,IntKind.signed,IntKind.max,IntKind.bits,max_32,not_32]
    (refine fin_x rfl ?_ ?_<;>simp [pack,lo,loL,V.closed,closedL,mv_closed,onS])
theorem sum_of (st:St) (l:List Str) (hl:l.length≤1000) (hs:∀ s∈l,s.length≤1000000000):PCall Tryz.prog 133 [.fsl st 1 (vS l)] (w32 (l.foldl onS 0#32)):=by
  refine en133 (by simp) (by simp [closedL,V.closed,vS_closed]) ?_
  simp (maxSteps:=1000000) (disch:=omega) only [rg,gD,Nat.reduceBEq,Nat.reduceEqDiff,Nat.reduceAdd,Int.reduceEq,Int.reduceLT,Int.reduceLE,Int.reduceToNat,reduceIte,reduceCtorEq,Nat.reduceLeDiff,Nat.reduceLT,Nat.reduceMul,Nat.reduceSub,c133,vS]
  refine x_itp l.length (fun _ => True) (fun i => [(3,w32 ((l.take i).foldl onS 0#32)),(6,.fsl st 1 (mv V.str l)),(7,.int .i64 l.length),(8,.int .i64 i)]) trivial rfl ?_
  intro T i hi _ hN hX hR
  simp (maxSteps:=1000000) (disch:=omega) only [rg,gD,Nat.reduceBEq,Nat.reduceEqDiff,Nat.reduceAdd,Int.reduceEq,Int.reduceLT,Int.reduceLE,Int.reduceToNat,reduceIte,reduceCtorEq,Nat.reduceLeDiff,Nat.reduceLT,Nat.reduceMul,Nat.reduceSub]
  refine ⟨fun h => ?_,fun h => ?_⟩
  · have i1:i < l.length:=by omega
    simp (maxSteps:=1000000) (disch:=omega) only [rg,gD,Nat.reduceBEq,Nat.reduceEqDiff,Nat.reduceAdd,Int.reduceEq,Int.reduceLT,Int.reduceLE,Int.reduceToNat,reduceIte,reduceCtorEq,Nat.reduceLeDiff,Nat.reduceLT,Nat.reduceMul,Nat.reduceSub]
    refine ⟨_,sum_on _ l[i] (hs _ (List.getElem_mem i1)), ?_⟩
    simp (maxSteps:=1000000) (disch:=omega) only [rg,gD,Nat.reduceBEq,Nat.reduceEqDiff,Nat.reduceAdd,Int.reduceEq,Int.reduceLT,Int.reduceLE,Int.reduceToNat,reduceIte,reduceCtorEq,Nat.reduceLeDiff,Nat.reduceLT,Nat.reduceMul,Nat.reduceSub]
    refine hN _ i1 trivial ?_
    rw [List.take_succ_eq_append_getElem i1,List.foldl_append]
    rfl
  · obtain rfl:i=l.length:=by omega
    rw [List.take_length]
    refine hX _ _ _ ?_
    simp (maxSteps:=1000000) (disch:=omega) only [rg,gD,Nat.reduceBEq,Nat.reduceEqDiff,Nat.reduceAdd,Int.reduceEq,Int.reduceLT,Int.reduceLE,Int.reduceToNat,reduceIte,reduceCtorEq,Nat.reduceLeDiff,Nat.reduceLT,Nat.reduceMul,Nat.reduceSub]
    refine x_frz0 ?_
    simp (maxSteps:=1000000) (disch:=omega) only [rg,gD,Nat.reduceBEq,Nat.reduceEqDiff,Nat.reduceAdd,Int.reduceEq,Int.reduceLT,Int.reduceLE,Int.reduceToNat,reduceIte,reduceCtorEq,Nat.reduceLeDiff,Nat.reduceLT,Nat.reduceMul,Nat.reduceSub]
    (refine fin_x rfl ?_ ?_<;>simp [pack,lo,loL,V.closed,closedL,mv_closed,w32])
def le4 (c:B32):Str:=[UInt8.ofNat (c.toNat % 256),UInt8.ofNat (c.toNat / 256 % 256),UInt8.ofNat (c.toNat / 65536 % 256),UInt8.ofNat (c.toNat / 16777216 % 256)]
def sealS (s:Str):Str:=s++le4 (crcS s)
theorem sum_seal (s:Str) (hs:s.length≤1000000000):PCall Tryz.prog 123 [.str s] (.str (sealS s)):=by
  refine en123 (by simp) (by simp [closedL,V.closed]) ?_
  simp (maxSteps:=1000000) (disch:=omega) only [rg,gD,Nat.reduceBEq,Nat.reduceEqDiff,Nat.reduceAdd,Int.reduceEq,Int.reduceLT,Int.reduceLE,Int.reduceToNat,reduceIte,reduceCtorEq,Nat.reduceLeDiff,Nat.reduceLT,Nat.reduceMul,Nat.reduceSub,c123]
  refine ⟨_,sum_of .full [s] (by simp) (by simpa using hs), ?_⟩
  simp only [List.foldl_cons,List.foldl_nil]
  have hc:onS 0#32 s=crcS s:=rfl
  rw [hc]
  have h:=(crcS s).isLt
  have hle:(le4 (crcS s)).length=4:=rfl
  have q0:IntKind.u8.wrap ((crcS s).toNat:Int)=((UInt8.ofNat ((crcS s).toNat % 256)).toNat:Int):=wrap_u8 _
  have q1:IntKind.u8.wrap (((crcS s).toNat:Int).fdiv (2 ^ min 8 32))=((UInt8.ofNat ((crcS s).toNat / 256 % 256)).toNat:Int):=by
    rw [← wrap_u8,Int.fdiv_eq_ediv_of_nonneg _ (by simp)]; simp
  have q2:IntKind.u8.wrap (((crcS s).toNat:Int).fdiv (2 ^ min 16 32))=((UInt8.ofNat ((crcS s).toNat / 65536 % 256)).toNat:Int):=by
    rw [← wrap_u8,Int.fdiv_eq_ediv_of_nonneg _ (by simp)]; simp
  have q3:IntKind.u8.wrap (((crcS s).toNat:Int).fdiv (2 ^ min 24 32))=((UInt8.ofNat ((crcS s).toNat / 16777216 % 256)).toNat:Int):=by
    rw [← wrap_u8,Int.fdiv_eq_ediv_of_nonneg _ (by simp)]; simp
  simp (maxSteps:=1000000) (disch:=omega) only [rg,gD,Nat.reduceBEq,Nat.reduceEqDiff,Nat.reduceAdd,Int.reduceEq,Int.reduceLT,Int.reduceLE,Int.reduceToNat,reduceIte,reduceCtorEq,Nat.reduceLeDiff,Nat.reduceLT,Nat.reduceMul,Nat.reduceSub,w32,IntKind.bits,q0,q1,q2,q3]
  refine ⟨le4 (crcS s),rfl, ?_⟩
  simp (maxSteps:=1000000) (disch:=omega) only [rg,gD,Nat.reduceBEq,Nat.reduceEqDiff,Nat.reduceAdd,Int.reduceEq,Int.reduceLT,Int.reduceLE,Int.reduceToNat,reduceIte,reduceCtorEq,Nat.reduceLeDiff,Nat.reduceLT,Nat.reduceMul,Nat.reduceSub]
  refine ⟨_,code_all .full [s,le4 (crcS s)] (by simp) (by simp [hle]; omega), ?_⟩
  simp (maxSteps:=1000000) (disch:=omega) only [rg,gD,Nat.reduceBEq,Nat.reduceEqDiff,Nat.reduceAdd,Int.reduceEq,Int.reduceLT,Int.reduceLE,Int.reduceToNat,reduceIte,reduceCtorEq,Nat.reduceLeDiff,Nat.reduceLT,Nat.reduceMul,Nat.reduceSub]
  (refine fin_x rfl ?_ ?_<;>simp [pack,lo,loL,V.closed,closedL,mv_closed,sealS])
theorem fin_An {rvs:List RV} {r:V} {σ:Sg} {H:Hp} {l:List V} {m0:Hm} {n k:Nat} {ds:List (Nat×Option Ob)} (hl:resE σ H.m rvs=some l) (hr:pack l=r∨loosen (pack l)=r∨lo (pack l)=r) (hk:H.n≤n+k) (hm:∀ id,appd ds m0 id=none∨appd ds m0 id=H.m id):FinA rvs m0 n r ds k .norm σ H :=
  ⟨.inl rfl,⟨l,hl,hr⟩,hk,hm⟩
theorem c255 (n:Nat):((255:Int) < (n:Int))↔255 < n:=by omega
theorem two_flat (a b:Str):[a,b].flatten=a++b:=by simp
/-! The document's reader: where it is,and what went wrong. -/
/-! The program's reader. -/
/-! The program's writer. -/
def wrV (r:Str×Bool):Ob:=.arr 2 [.agg [.str r.1,.bool r.2]]
def wNum (r:Str×Bool) (n k:Int):Str×Bool:=(r.1++(putS n k).1,r.2 || !decide ((putS n k).2=0))
def wTxt (r:Str×Bool) (t:Str):Str×Bool:=(r.1++(textS t).1,(r.2 || !decide ((textS t).2=0)) || decide (255 < t.length))
theorem w_num (H:Hp) (b:Nat) (r:Str×Bool) (n k:Int) (hr:r.1.length≤1000000000) (hn:n≤9223372036854775807) (hb:b < H.n) (hm:H.m b=some (wrV r)) :
    ACall Tryz.prog 90 [.ptr b 0 0,.int .i64 n,.int .i64 k] H [b] (.tup []) [(b,some (wrV (wNum r n k)))] 0:=by
  refine ena90 (by simp) (by simp [lowL,V.low,hb]) (fun id hid => ?_) (by simp) ?_
  · simp at hid; subst hid
    exact ⟨hb,fun o ho => by rw [hm] at ho; simp at ho; subst ho; rfl⟩
  have q1:only [b] H.m b=some (wrV r):=by simp [only,hm]
  obtain ⟨a,e⟩:=r
  have hpl:=putS_len n k
  unfold wrV at q1
  simp (maxSteps:=1000000) (disch:=omega) only [rg,gD,simprocAttr,c90]
  refine ⟨_,code_put n k hn, ?_⟩
  simp (maxSteps:=1000000) (disch:=omega) only [rg,gD,simprocAttr,sV,q1]
  refine ⟨_,code_all .full [a,(putS n k).1] (by simp) (by simp at hr ⊢; omega), ?_⟩
  rw [two_flat]
  cases e with
  | false =>
    simp (maxSteps:=1000000) (disch:=omega) only [rg,gD,simprocAttr,q1]
    exact fin_An (l:=[]) rfl (.inl rfl) (by simp) (fun id => .inr (by by_cases h:id=b<;>simp [appd,upd,h,wrV,wNum]))
  | true =>
    simp (maxSteps:=1000000) (disch:=omega) only [rg,gD,simprocAttr,q1]
    exact fin_An (l:=[]) rfl (.inl rfl) (by simp) (fun id => .inr (by by_cases h:id=b<;>simp [appd,upd,h,wrV,wNum]))
theorem textS_len (s:Str):(textS s).1.length≤s.length+2:=by
  unfold textS; split
  · simp
  · simp [beS_len]; omega
theorem textS_len2 (s:Str):(textS s).1.length≤65537:=by
  unfold textS; split
  · simp
  · simp [beS_len]; omega
theorem w_text (H:Hp) (b:Nat) (r:Str×Bool) (t:Str) (hr:r.1.length≤1000000000) (ht:t.length≤140737488355328) (hb:b < H.n) (hm:H.m b=some (wrV r)) :
    ACall Tryz.prog 93 [.ptr b 0 0,.str t] H [b] (.tup []) [(b,some (wrV (wTxt r t)))] 0:=by
  refine ena93 (by simp) (by simp [lowL,V.low,hb]) (fun id hid => ?_) (by simp) ?_
  · simp at hid; subst hid
    exact ⟨hb,fun o ho => by rw [hm] at ho; simp at ho; subst ho; rfl⟩
  have q1:only [b] H.m b=some (wrV r):=by simp [only,hm]
  obtain ⟨a,e⟩:=r
  have hpl:=textS_len2 t
  unfold wrV at q1
  simp (maxSteps:=1000000) (disch:=omega) only [rg,gD,simprocAttr,c93]
  refine ⟨_,code_text t ht, ?_⟩
  simp (maxSteps:=1000000) (disch:=omega) only [rg,gD,simprocAttr,sV,q1]
  refine ⟨_,code_all .full [a,(textS t).1] (by simp) (by simp at hr ⊢; omega), ?_⟩
  rw [two_flat]
  by_cases c:(textS t).2=0
  · cases e with
    | false =>
      simp (maxSteps:=1000000) (disch:=omega) only [rg,gD,simprocAttr,q1,c]
      exact fin_An (l:=[]) rfl (.inl rfl) (by simp) (fun id => .inr (by by_cases h:id=b<;>simp [appd,upd,h,wrV,wTxt,c,c255]))
    | true =>
      simp (maxSteps:=1000000) (disch:=omega) only [rg,gD,simprocAttr,q1,c]
      exact fin_An (l:=[]) rfl (.inl rfl) (by simp) (fun id => .inr (by by_cases h:id=b<;>simp [appd,upd,h,wrV,wTxt,c,c255]))
  · cases e with
    | false =>
      simp (maxSteps:=1000000) (disch:=omega) only [rg,gD,simprocAttr,q1,c]
      exact fin_An (l:=[]) rfl (.inl rfl) (by simp) (fun id => .inr (by by_cases h:id=b<;>simp [appd,upd,h,wrV,wTxt,c,c255]))
    | true =>
      simp (maxSteps:=1000000) (disch:=omega) only [rg,gD,simprocAttr,q1,c]
      exact fin_An (l:=[]) rfl (.inl rfl) (by simp) (fun id => .inr (by by_cases h:id=b<;>simp [appd,upd,h,wrV,wTxt,c,c255]))
def wEnd (r:Str×Bool):Str×Int:=if r.2=true then ([],1) else (sealS r.1,0)
theorem w_end (H:Hp) (b:Nat) (r:Str×Bool) (hr:r.1.length≤1000000000) (hb:b < H.n) (hm:H.m b=some (wrV r)) :
    ACall Tryz.prog 94 [.ptr b 0 0] H [b] (sV (wEnd r)) [] 0:=by
  refine ena94 (by simp) (by simp [lowL,V.low,hb]) (fun id hid => ?_) (by simp) ?_
  · simp at hid; subst hid
    exact ⟨hb,fun o ho => by rw [hm] at ho; simp at ho; subst ho; rfl⟩
  have q1:only [b] H.m b=some (wrV r):=by simp [only,hm]
  obtain ⟨a,e⟩:=r
  unfold wrV at q1
  cases e with
  | false =>
    simp (maxSteps:=1000000) (disch:=omega) only [rg,gD,simprocAttr,c94,q1]
    refine ⟨_,sum_seal a hr, ?_⟩
    simp (maxSteps:=1000000) (disch:=omega) only [rg,gD,simprocAttr]
    exact fin_A (l:=[.str (sealS a),.int .i64 0]) rfl (.inl (by simp [pack,sV,wEnd])) (by simp) (fun id => .inr rfl)
  | true =>
    simp (maxSteps:=1000000) (disch:=omega) only [rg,gD,simprocAttr,c94,q1]
    exact fin_A (l:=[.str [],.int .i64 1]) rfl (.inl (by simp [pack,sV,wEnd])) (by simp) (fun id => .inr rfl)
theorem putS_ok {n k:Int}:(putS n k).2=0↔(1≤k∧k≤6∧0≤n∧n < 256 ^ k.toNat):=by
  unfold putS; split
  · simp only; constructor
    · intro h; omega
    · intro h; omega
  · simp only [true_iff]; omega
/-! What was written is read again. -/
def intsB (l:List Int):Str:=(l.map fun x => (putS x 1).1).flatten
def tskB (t:Task):Str:=((((putS t.needs.length 1).1++intsB t.needs)++(putS t.tries 1).1)++(putS t.wait 3).1)++(putS t.lease 3).1
def tsksB (l:List Task):Str:=(l.map tskB).flatten
def dagB (d:Dag):Str:=((textS d.name).1++(putS d.tasks.length 1).1)++tsksB d.tasks
theorem intsB_cons {x:Int} {l:List Int}:intsB (x::l)=(putS x 1).1++intsB l:=rfl
theorem tsksB_cons {t:Task} {l:List Task}:tsksB (t::l)=tskB t++tsksB l:=rfl
theorem intsB_succ {l:List Int} {i:Nat} (h:i < l.length):intsB (l.take (i+1))=intsB (l.take i)++(putS l[i] 1).1:=by
  rw [List.take_succ_eq_append_getElem h,intsB,List.map_append,List.flatten_append]; simp [intsB]
theorem tsksB_succ {l:List Task} {i:Nat} (h:i < l.length):tsksB (l.take (i+1))=tsksB (l.take i)++tskB l[i]:=by
  rw [List.take_succ_eq_append_getElem h,tsksB,List.map_append,List.flatten_append]; simp [tsksB]
theorem putS_len1 (n:Int):(putS n 1).1.length≤1:=by
  unfold putS; split
  · simp
  · simp [beS_len]
theorem putS_len3 (n:Int):(putS n 3).1.length≤3:=by
  unfold putS; split
  · simp
  · simp [beS_len]
theorem intsB_len:∀ (l:List Int),(intsB l).length≤l.length
  | [] => by simp [intsB]
  | x::l => by
    have h1:=putS_len1 x
    have h2:=intsB_len l
    rw [intsB_cons,List.length_append,List.length_cons]; omega
theorem tskB_len (t:Task):(tskB t).length≤t.needs.length+8:=by
  have h1:=putS_len1 t.needs.length
  have h2:=intsB_len t.needs
  have h3:=putS_len1 t.tries
  have h4:=putS_len3 t.wait
  have h5:=putS_len3 t.lease
  simp only [tskB,List.length_append]; omega
theorem tsksB_len {N:Nat}:∀ {l:List Task},(∀ t∈l,t.needs.length≤N)→(tsksB l).length≤l.length*(N+8)
  | [],_ => by simp [tsksB]
  | t::l,h => by
    have h1:=tskB_len t
    have h2:=h t (by simp)
    have h3:=tsksB_len (l:=l) fun x hx => h x (by simp [hx])
    rw [tsksB_cons,List.length_append,List.length_cons,Nat.add_mul]; omega
def tskFit (t:Task):Prop:=(putS t.needs.length 1).2=0∧(∀ x∈t.needs,(putS x 1).2=0)∧(putS t.tries 1).2=0∧(putS t.wait 3).2=0∧(putS t.lease 3).2=0
def dagFit (d:Dag):Prop:=d.name.length≤65535∧(putS d.tasks.length 1).2=0∧∀ t∈d.tasks,tskFit t
theorem right_fit {d:Dag} (h:refRightS d=0):dagFit d∧d.tasks.length≤10∧d.name.length≤16∧1≤d.tasks.length∧∀ t∈d.tasks,t.needs.length≤10:=by
  unfold refRightS at h
  by_cases c0:10 < d.tasks.length
  · rw [if_pos c0] at h; simp at h
  rw [if_neg c0] at h
  by_cases c1:shapedS d=false
  · rw [if_pos c1] at h; simp at h
  simp only [Bool.not_eq_false] at c1
  simp only [shapedS,Bool.and_eq_true,Bool.not_eq_true',decide_eq_false_iff_not,List.all_eq_true] at c1
  obtain ⟨h1,h2⟩:=c1
  have e1:(256:Int) ^ (1:Int).toNat=256:=rfl
  have e3:(256:Int) ^ (3:Int).toNat=16777216:=rfl
  have each:∀ t∈d.tasks,tskFit t∧t.needs.length≤10:=by
    intro t ht
    have h3:=h2 t ht
    simp only [taskOkS,taskNumS,Bool.and_eq_true,decide_eq_true_eq] at h3
    obtain ⟨h4,h5⟩:=h3
    have h6:=rise_range h4 (by omega)
    have h7:t.needs.length≤10:=by have:=h6.2; omega
    refine ⟨⟨putS_ok.2 ?_,fun x hx => putS_ok.2 ?_,putS_ok.2 ?_,putS_ok.2 ?_,putS_ok.2 ?_⟩,h7⟩
    · rw [e1]; omega
    · have:=h6.1 x hx; rw [e1]; omega
    · rw [e1]; omega
    · rw [e3]; omega
    · rw [e3]; omega
  refine ⟨⟨by omega,putS_ok.2 (by rw [e1]; omega),fun t ht => (each t ht).1⟩,by omega,by omega,by omega,fun t ht => (each t ht).2⟩
def zeroD:Dag:=⟨[],[]⟩
def dagPutS (d:Dag):Str×Int:=if refRightS d=0 then (dagB d,0) else ([],refRightS d)
def zeroC:Cmd:=⟨0,[],[],0,0,[],zeroD⟩
def noDag (d:Dag):Prop:=d.name=[]∧d.tasks.length=0
instance (d:Dag):Decidable (noDag d):=by unfold noDag; infer_instance
theorem noDag_eq {d:Dag} (h:noDag d):d=zeroD:=by
  obtain ⟨n,l⟩:=d
  obtain ⟨h1,h2⟩:=h
  simp only at h1 h2
  rw [h1,List.eq_nil_of_length_eq_zero h2]; rfl
def bareP (c:Cmd):Prop :=
  if c.kind=1 then c.key=[]∧c.name=[]∧c.token=0∧c.time=0∧c.text=[]
  else if c.kind=2 then c.token=0∧c.time=0∧c.text=[]∧noDag c.dag
  else if c.kind=4∨c.kind=6 then c.key=[]∧c.name=[]∧c.time=0∧c.text=[]∧noDag c.dag
  else if c.kind=5 then c.key=[]∧c.name=[]∧c.time=0∧noDag c.dag
  else if c.kind=7∨c.kind=9 then c.name=[]∧c.token=0∧c.time=0∧c.text=[]∧noDag c.dag
  else if c.kind=8 then c.key=[]∧c.name=[]∧c.token=0∧c.text=[]∧noDag c.dag
  else c.key=[]∧c.name=[]∧c.token=0∧c.time=0∧c.text=[]∧noDag c.dag
instance (c:Cmd):Decidable (bareP c):=by unfold bareP; infer_instance
def fitP (c:Cmd):Prop:=c.key.length≤255∧c.name.length≤255∧c.text.length≤255∧0≤c.token∧c.token < 281474976710656∧0≤c.time∧c.time < 281474976710656
instance (c:Cmd):Decidable (fitP c):=by unfold fitP; infer_instance
def cmdP (c:Cmd):Prop:=1≤c.kind∧c.kind≤10∧bareP c∧fitP c∧(c.kind=1→refRightS c.dag=0)
instance (c:Cmd):Decidable (cmdP c):=by unfold cmdP; infer_instance
def cmdBody (c:Cmd):Str :=
  if c.kind=1 then dagB c.dag
  else if c.kind=2 then (textS c.key).1++(textS c.name).1
  else if c.kind=4∨c.kind=6 then (putS c.token 6).1
  else if c.kind=5 then (putS c.token 6).1++(textS c.text).1
  else if c.kind=7∨c.kind=9 then (textS c.key).1
  else if c.kind=8 then (putS c.time 6).1
  else []
def cmdB (c:Cmd):Str:=(putS c.kind 1).1++cmdBody c
def cmdPutS (c:Cmd):Str×Int:=if cmdP c then (sealS (cmdB c),0) else ([],1)
theorem fPut1 {n:Int} (h:0≤n∧n < 256):(putS n 1).2=0:=putS_ok.2 ⟨by omega,by omega,h.1,h.2⟩
theorem dag_put1 (H:Hp) (b:Nat) (out:Str) (n k:Int) (hr:out.length≤1000000000) (hn:n≤9223372036854775807) (hb:b < H.n) (hm:H.m b=some (.arr 1 [.str out])) :
    ACall Tryz.prog 122 [.int .i64 n,.int .i64 k,.ptr b 0 0] H [b] (.tup []) [(b,some (.arr 1 [.str (out++(putS n k).1)]))] 0:=by
  refine ena122 (by simp) (by simp [lowL,V.low,hb]) (fun id hid => ?_) (by simp) ?_
  · simp at hid; subst hid
    exact ⟨hb,fun o ho => by rw [hm] at ho; simp at ho; subst ho; rfl⟩
  have q1:only [b] H.m b=some (.arr 1 [.str out]):=by simp [only,hm]
  have hpl:=putS_len n k
  simp (maxSteps:=1000000) (disch:=omega) only [rg,gD,simprocAttr,c122]
  refine ⟨_,code_put n k hn, ?_⟩
  simp (maxSteps:=1000000) (disch:=omega) only [rg,gD,simprocAttr,sV,q1]
  refine ⟨_,code_all .full [out,(putS n k).1] (by simp) (by simp at hr ⊢; omega), ?_⟩
  rw [two_flat]
  simp (maxSteps:=1000000) (disch:=omega) only [rg,gD,simprocAttr,q1]
  exact fin_An (l:=[]) rfl (.inl rfl) (by simp) (fun id => .inr (by by_cases h:id=b<;>simp [appd,upd,h]))
def okInt (n:Int):Prop:=n≤9223372036854775807
def okDagN (d:Dag):Prop:=∀ t∈d.tasks,(∀ x∈t.needs,okInt x)∧okInt t.tries∧okInt t.wait∧okInt t.lease
theorem dag_put (d:Dag) (hd:∀ t∈d.tasks,t.needs.length≤4611686018427387904) (hn:d.tasks.length≤4611686018427387904) (hi:okDagN d):PCall Tryz.prog 91 [dagV d] (sV (dagPutS d)):=by
  refine en91 (by simp) (by simp [closedL,V.closed,dagV_closed]) ?_
  have kr:=dag_right d hd hn
  rw [← right_same] at kr
  unfold dagV tasksV at kr
  simp (maxSteps:=1000000) (disch:=omega) only [rg,gD,simprocAttr,c91,dagV,tasksV]
  refine ⟨_,kr, ?_⟩
  by_cases c0:refRightS d=0
  case neg =>
    simp (maxSteps:=1000000) (disch:=omega) only [rg,gD,simprocAttr,c0]
    (refine fin_x rfl ?_ ?_<;>simp [pack,lo,loL,V.closed,closedL,mv_closed,sV,dagPutS,c0])
  obtain ⟨hfit,h10,h16,h1,hneeds⟩:=right_fit c0
  simp (maxSteps:=1000000) (disch:=omega) only [rg,gD,simprocAttr,c0]
  refine ⟨_,code_text d.name (by omega), ?_⟩
  have tl:=textS_len d.name
  have n1:=putS_len1 d.tasks.length
  simp (maxSteps:=1000000) (disch:=omega) only [rg,gD,simprocAttr,sV]
  refine ⟨_,_,_,_,dag_put1 _ 1 (textS d.name).1 d.tasks.length 1 (by omega) (by omega) (by simp) (by simp (disch:=omega) only [upd_eq,upd_ne,wo_0,wo_1,wo_2]), ?_⟩
  simp (maxSteps:=1000000) (disch:=omega) only [rg,gD,simprocAttr]
  have hD:dagPutS d=(((textS d.name).1++(putS d.tasks.length 1).1)++tsksB d.tasks,0):=by simp [dagPutS,c0,dagB]
  rw [hD]
  generalize hB:(textS d.name).1++(putS d.tasks.length 1).1=B
  have hBl:B.length≤100:=by rw [← hB]; simp; omega
  refine x_it d.tasks.length (fun i σ H => 2≤H.n∧H.m 1=some (.arr 1 [.str (B++tsksB (d.tasks.take i))])∧σ=[(5,.ptr 1 0 0),(7,.fn 122 [] [.ptr 1 0 0]),(30,tasksV d.tasks),(31,.int .i64 d.tasks.length),(32,.int .i64 i)]) ⟨Nat.le_refl 2,(by simp (disch:=omega) only [upd_eq,upd_ne,wo_0,wo_1,wo_2,tsksB,List.take_zero,List.map_nil,List.flatten_nil,List.append_nil]),rfl⟩ ?_
  rintro T i σ ⟨q,m⟩ hi' ⟨hq,e1,rfl⟩ hN hX hR
  simp only at hq e1
  simp (maxSteps:=1000000) (disch:=omega) only [rg,gD,simprocAttr,tasksV]
  refine ⟨fun h => ?_,fun h => ?_⟩
  · have i1:i < d.tasks.length:=by omega
    obtain ⟨g1,g2,g3,g4⟩:=hi _ (List.getElem_mem i1)
    have hnl:=hneeds _ (List.getElem_mem i1)
    have hq1:1≠q:=by omega
    have hsl:=tsksB_len (l:=d.tasks.take i) (N:=10) (fun t ht => hneeds t (List.mem_of_mem_take ht))
    rw [List.length_take] at hsl
    rw [tsksB_succ i1] at hN
    generalize tsksB (d.tasks.take i)=out at *
    have hol:(B++out).length≤1000:=by simp; omega
    simp (maxSteps:=1000000) (disch:=omega) only [rg,gD,simprocAttr,taskV,vI_len]
    generalize d.tasks[i]=t at *
    refine ⟨_,_,_,_,dag_put1 _ 1 (B++out) t.needs.length 1 (by omega) (by omega) (by show 1 < q+1; omega) (by simp (disch:=omega) only [upd_eq,upd_ne,wo_0,wo_1,wo_2,e1]), ?_⟩
    have m1:=putS_len1 t.needs.length
    simp (maxSteps:=1000000) (disch:=omega) only [rg,gD,simprocAttr,vI_len]
    refine x_it t.needs.length (fun j σ H => q+1≤H.n∧H.m q=some (.arr 4 [taskV t])∧H.m 1=some (.arr 1 [.str (((B++out)++(putS t.needs.length 1).1)++intsB (t.needs.take j))])∧σ=[(5,.ptr 1 0 0),(7,.fn 122 [] [.ptr 1 0 0]),(9,.ptr q 0 0),(30,tasksV d.tasks),(31,.int .i64 d.tasks.length),(32,.int .i64 i),(42,.fsl .loose 1 (vI t.needs)),(43,.int .i64 t.needs.length),(44,.int .i64 j)]) ⟨Nat.le_refl _,(by simp (disch:=omega) only [upd_eq,upd_ne,wo_0,wo_1,wo_2,taskV]),(by simp (disch:=omega) only [upd_eq,upd_ne,wo_0,wo_1,wo_2,intsB,List.take_zero,List.map_nil,List.flatten_nil,List.append_nil]),rfl⟩ ?_
    rintro T2 j σ ⟨q2,m2⟩ hj ⟨hq2,f0,f1,rfl⟩ hN2 hX2 hR2
    simp only at hq2 f0 f1
    unfold taskV at f0
    have hil:=intsB_len (t.needs.take j)
    rw [List.length_take] at hil
    have hol2:(((B++out)++(putS t.needs.length 1).1)++intsB (t.needs.take j)).length≤1020:=by rw [List.length_append,List.length_append]; omega
    simp (maxSteps:=1000000) (disch:=omega) only [rg,gD,simprocAttr]
    refine ⟨fun h => ?_,fun h => ?_⟩
    · have j1:j < t.needs.length:=by omega
      rw [intsB_succ j1] at hN2
      generalize intsB (t.needs.take j)=o2 at *
      simp (maxSteps:=1000000) (disch:=omega) only [rg,gD,simprocAttr,vI_get]
      refine ⟨_,_,_,_,dag_put1 _ 1 (((B++out)++(putS t.needs.length 1).1)++o2) t.needs[j] 1 (by omega) (g1 _ (List.getElem_mem j1)) (by show 1 < q2; omega) (by simp (disch:=omega) only [upd_eq,upd_ne,wo_0,wo_1,wo_2,f1]), ?_⟩
      simp (maxSteps:=1000000) (disch:=omega) only [rg,gD,simprocAttr]
      refine hN2 _ _ j1 ?_
      refine ⟨hq2,(by simp (disch:=omega) only [upd_eq,upd_ne,wo_0,wo_1,wo_2,f0,taskV]),(by simp (disch:=omega) only [upd_eq,upd_ne,wo_0,wo_1,wo_2,List.append_assoc]),rfl⟩
    · obtain rfl:j=t.needs.length:=by omega
      rw [List.take_length] at f1 hol2
      refine hX2 _ _ _ ?_
      simp (maxSteps:=1000000) (disch:=omega) only [rg,gD,simprocAttr]
      refine x_frz0 ?_
      have k3:=putS_len1 t.tries
      have k4:=putS_len3 t.wait
      generalize hO:((B++out)++(putS t.needs.length 1).1)++intsB t.needs=O at f1 hol2
      simp (maxSteps:=1000000) (disch:=omega) only [rg,gD,simprocAttr,f0]
      refine ⟨_,_,_,_,dag_put1 _ 1 O t.tries 1 (by omega) g2 (by show 1 < q2; omega) (by simp (disch:=omega) only [upd_eq,upd_ne,wo_0,wo_1,wo_2,f1]), ?_⟩
      simp (maxSteps:=1000000) (disch:=omega) only [rg,gD,simprocAttr,f0]
      refine ⟨_,_,_,_,dag_put1 _ 1 (O++(putS t.tries 1).1) t.wait 3 (by rw [List.length_append]; omega) g3 (by show 1 < q2; omega) (by simp (disch:=omega) only [upd_eq,upd_ne,wo_0,wo_1,wo_2]), ?_⟩
      simp (maxSteps:=1000000) (disch:=omega) only [rg,gD,simprocAttr,f0]
      refine ⟨_,_,_,_,dag_put1 _ 1 ((O++(putS t.tries 1).1)++(putS t.wait 3).1) t.lease 3 (by rw [List.length_append,List.length_append]; omega) g4 (by show 1 < q2; omega) (by simp (disch:=omega) only [upd_eq,upd_ne,wo_0,wo_1,wo_2]), ?_⟩
      simp (maxSteps:=1000000) (disch:=omega) only [rg,gD,simprocAttr]
      refine x_frz0 ?_
      simp (maxSteps:=1000000) (disch:=omega) only [rg,gD,simprocAttr]
      refine hN _ _ i1 ?_
      refine ⟨by show 2≤q2; omega, ?_,rfl⟩
      simp only [upd_eq]
      rw [← hO]
      simp only [tskB,List.append_assoc]
  · obtain rfl:i=d.tasks.length:=by omega
    rw [List.take_length] at e1
    refine hX _ _ _ ?_
    simp (maxSteps:=1000000) (disch:=omega) only [rg,gD,simprocAttr]
    refine x_frz0 ?_
    simp (maxSteps:=1000000) (disch:=omega) only [rg,gD,simprocAttr,e1]
    (refine fin_x rfl ?_ ?_<;>simp [pack,lo,loL,V.closed,closedL,mv_closed,sV])
def Gro (lo n:Nat) (m:Hm) (sz:Nat) (v:V) (l:List V):Prop :=
  (∃ st,(st≠.loose∧st≠.nn)∧v=.fsl st sz []∧l=[])∨∃ id,lo≤id∧id < n∧v=.sl id 0 l.length∧m id=some (.arr sz l)
theorem Gro.nil {lo n:Nat} {m:Hm} {sz:Nat}:Gro lo n m sz (.fsl .nil sz []) []:=.inl ⟨.nil,by decide,rfl,rfl⟩
theorem Gro.full {lo n:Nat} {m:Hm} {sz:Nat}:Gro lo n m sz (.fsl .full sz []) []:=.inl ⟨.full,by decide,rfl,rfl⟩
theorem Gro.keep {lo n n':Nat} {m m':Hm} {sz:Nat} {v:V} {l:List V} (h:Gro lo n m sz v l) (hn:n≤n') (hm:∀ id,lo≤id→id < n→m' id=m id):Gro lo n' m' sz v l:=by
  rcases h with h | ⟨id,h1,h2,h3,h4⟩
  · exact .inl h
  · exact .inr ⟨id,h1,by omega,h3,by rw [hm id h1 h2]; exact h4⟩
theorem Gro.down {lo lo' n:Nat} {m:Hm} {sz:Nat} {v:V} {l:List V} (h:Gro lo n m sz v l) (hl:lo'≤lo):Gro lo' n m sz v l:=by
  rcases h with h | ⟨id,h1,h2,h3,h4⟩
  · exact .inl h
  · exact .inr ⟨id,by omega,h2,h3,h4⟩
theorem Gro.rd {lo n:Nat} {m:Hm} {sz:Nat} {v:V} {l:List V} (h:Gro lo n m sz v l):rd m v=some (sz,l):=by
  rcases h with ⟨st,_,rfl,rfl⟩ | ⟨id,h1,h2,rfl,h3⟩
  · rfl
  · simp [Ev.rd,h3]
theorem Gro.cell {lo n:Nat} {m:Hm} {sz:Nat} {v:V} {l:List V} (h:Gro lo n m sz v l):v.cell=true:=by
  rcases h with ⟨st,_,rfl,rfl⟩ | ⟨id,h1,h2,rfl,h3⟩<;>rfl
theorem app_gro {lo:Nat} {H:Hp} {sz bt:Nat} {v y:V} {l ys:List V} {K:KI} (h:Gro lo H.n H.m sz v l) (hlo:lo≤H.n) (hy:Ev.rd H.m y=some (sz,ys)) (hne:ys≠[]) (hl:(l.length+ys.length)*bt≤140737488355328)
    (k:∀ v' fp ds,Gro lo (H.n+1) (appd ds H.m) sz v' (l++ys)→(∀ id,id < lo→appd ds H.m id=H.m id)→(∀ id,id < H.n→(∀ o n,v≠.sl id o n)→appd ds H.m id=H.m id)→K v' fp ds 1):fin (appO H sz bt v y) K:=by
  have e:(l++ys).length=l.length+ys.length:=List.length_append
  unfold appO
  rw [rdA_of hy]
  rcases h with ⟨st,h0,rfl,rfl⟩ | ⟨id,h1,h1',rfl,h2⟩
  · cases ys with
    | nil => exact absurd rfl hne
    | cons a ys =>
      refine ⟨⟨rfl,rfl,h0,by simpa using hl⟩,k _ _ _ (.inr ⟨H.n,hlo,by simp,by simp,by simp [appd,upd]⟩) (fun id hid => ?_) fun id hid _ => ?_⟩
      · have:id≠H.n:=by omega
        simp [appd,upd,this]
      · have:id≠H.n:=by omega
        simp [appd,upd,this]
  · simp only [h2]
    refine ⟨⟨trivial,trivial,trivial,Nat.le_refl _,hl⟩,k _ _ _ (.inr ⟨H.n,hlo,by simp,by simp,by simp [appd,upd]⟩) (fun i hid => ?_) fun i hid hv => ?_⟩
    · have h3:i≠H.n:=by omega
      have h4:i≠id:=by omega
      simp [appd,upd,h3,h4]
    · have h3:i≠H.n:=by omega
      have h4:i≠id:=fun e => hv 0 l.length (by rw [e])
      simp [appd,upd,h3,h4]
theorem Gro.frz {lo n:Nat} {m:Hm} {sz:Nat} {v:V} {l:List V} (h:Gro lo n m sz v l) (hc:closedL l=true):∃ fz st,(∀ id∈fz,lo≤id∧id < n)∧(∀ k,snap (k+1) (only fz m) v=some (.fsl st sz l))∧frzV fz m v=.fsl st sz l:=by
  have fin:∀ {fz st},(∀ k,snap (k+1) (only fz m) v=some (.fsl st sz l))→frzV fz m v=.fsl st sz l:=fun hk => by simp only [frzV,hk 3]
  rcases h with ⟨st,h0,rfl,rfl⟩ | ⟨id,h1,h1',rfl,h2⟩
  · have:=fun k => snap_cl (n:=k+1) (m:=only [] m) (v:=.fsl st sz []) rfl
    exact ⟨[],st,by simp,this,fin this⟩
  · have:=fun k => snap_sl (n:=k) (m:=only [id] m) (id:=id) (sz:=sz) (l:=l) (by simp [only,h2]) hc rfl
    exact ⟨[id],.loose,by simp; omega,this,fin this⟩
theorem mapO_app {f:V→Option V} {a b a' b':List V} (ha:mapO f a=some a') (hb:mapO f b=some b'):mapO f (a++b)=some (a'++b'):=by
  induction a generalizing a' with
  | nil => simp [mapO] at ha; subst ha; simpa using hb
  | cons x a ih =>
    simp only [mapO] at ha
    split at ha
    · rename_i u hu
      split at ha
      · rename_i us hus
        simp at ha; subst ha
        simp [mapO,hu,ih hus]
      · cases ha
    · cases ha
theorem frzV_mid {fz:List Nat} {m:Hm} {pre post:List V} {v u:V} (h:∀ k,snap (k+1) (only fz m) v=some u) (h1:closedL pre=true) (h2:closedL post=true):frzV fz m (.agg (pre++v::post))=.agg (pre++u::post):=by
  have hp:mapO (snap 3 (only fz m)) (pre++v::post)=some (pre++u::post):=mapO_app (mapO_closed h1) (by simp [mapO,h 2,mapO_closed h2])
  simp only [frzV,snap_agg hp]
theorem frl_get {fz ids:List Nat} {m:Hm} {id sz:Nat} {l:List V} (h:m id=some (.arr sz l)) (hn:id∉fz) (hi:id∉ids):loH ids (frzH fz m) id=some (.arr sz (l.map (frzV fz m))):=by
  simp [loH,hi,frzH,hn,h,frzO]
theorem map_frz {fz:List Nat} {m:Hm} {l:List V} (h:closedL l=true):l.map (frzV fz m)=l:=by
  rw [closedL_iff] at h
  exact (List.map_congr_left fun v hv => frz_c (h v hv)).trans (List.map_id _)
theorem frl_cl {fz ids:List Nat} {m:Hm} {id sz:Nat} {l:List V} (h:m id=some (.arr sz l)) (hc:closedL l=true) (hn:id∉fz) (hi:id∉ids):loH ids (frzH fz m) id=some (.arr sz l):=by
  rw [frl_get h hn hi,map_frz hc]
theorem kinds (k:Int):k=1∨k=2∨k=4∨k=6∨k=5∨k=7∨k=9∨k=8∨(¬ k=1∧¬ k=2∧¬ k=4∧¬ k=6∧¬ k=5∧¬ k=7∧¬ k=9∧¬ k=8):=by omega
def bareC (c:Cmd):Cmd :=
  if c.kind=1 then ⟨c.kind,[],[],0,0,[],c.dag⟩
  else if c.kind=2 then ⟨c.kind,c.key,c.name,0,0,[],zeroD⟩
  else if c.kind=4∨c.kind=6 then ⟨c.kind,[],[],c.token,0,[],zeroD⟩
  else if c.kind=5 then ⟨c.kind,[],[],c.token,0,c.text,zeroD⟩
  else if c.kind=7∨c.kind=9 then ⟨c.kind,c.key,[],0,0,[],zeroD⟩
  else if c.kind=8 then ⟨c.kind,[],[],0,c.time,[],zeroD⟩
  else ⟨c.kind,[],[],0,0,[],zeroD⟩
theorem frame_bare (c:Cmd):PCall Tryz.prog 119 [cmdV c] (cmdV (bareC c)):=by
  refine en119 (by simp) (by simp [closedL,V.closed,cmdV_closed]) ?_
  rcases kinds c.kind with k | k | k | k | k | k | k | k | ⟨k1,k2,k4,k6,k5,k7,k9,k8⟩
  case inr.inr.inr.inr.inr.inr.inr.inr =>
    simp (maxSteps:=1000000) (disch:=omega) only [rg,gD,simprocAttr,c119,cmdV,tasksV,k1,k2,k4,k6,k5,k7,k9,k8]
    (refine fin_x rfl ?_ ?_<;>simp [pack,lo,loL,V.closed,closedL,mv_closed,cmdV,bareC,k1,k2,k4,k6,k5,k7,k9,k8,tasksV,mv_closed taskV_closed,mv_lo taskV_lo,zeroD,mv])
  case inl =>
    simp (maxSteps:=1000000) (disch:=omega) only [rg,gD,simprocAttr,c119,cmdV,tasksV,k]
    (refine fin_x rfl ?_ ?_<;>simp [pack,lo,loL,V.closed,closedL,mv_closed,cmdV,bareC,k,tasksV,mv_closed taskV_closed,mv_lo taskV_lo])
  all_goals
    simp (maxSteps:=1000000) (disch:=omega) only [rg,gD,simprocAttr,c119,cmdV,tasksV,k]
    first
      | (refine fin_x rfl ?_ ?_<;>simp [pack,lo,loL,V.closed,closedL,mv_closed,cmdV,bareC,k,tasksV,mv_closed taskV_closed,mv_lo taskV_lo,zeroD,mv])
      | (refine ⟨by simp [compat,disj,nthL], ?_⟩; (refine fin_x rfl ?_ ?_<;>simp [pack,lo,loL,V.closed,closedL,mv_closed,cmdV,bareC,k,tasksV,mv_closed taskV_closed,mv_lo taskV_lo,zeroD,mv]))
def sameF (b c:Cmd):Prop:=b.key=c.key∧b.name=c.name∧b.token=c.token∧b.time=c.time∧b.text=c.text∧b.dag.name=c.dag.name∧b.dag.tasks.length=c.dag.tasks.length
instance (b c:Cmd):Decidable (sameF b c):=by unfold sameF; infer_instance
theorem sameF_bare (c:Cmd):sameF (bareC c) c↔bareP c:=by
  have e:∀ {α:Type} {a:List α},([]=a)=(a=[]):=fun {α} {a} => propext eq_comm
  have e0:∀ {a:Int},((0:Int)=a)=(a=0):=fun {a} => propext eq_comm
  have e1:∀ {a:Nat},((0:Nat)=a)=(a=0):=fun {a} => propext eq_comm
  unfold sameF bareC bareP
  split
  · simp [e,e0]
  split
  · simp [e,e0,e1,noDag,zeroD]
  split
  · simp [e,e0,e1,noDag,zeroD]
  split
  · simp [e,e0,e1,noDag,zeroD]
  split
  · simp [e,e0,e1,noDag,zeroD]
  split
  · simp [e,e0,e1,noDag,zeroD]
  · simp [e,e0,e1,noDag,zeroD]
theorem frame_clean (c:Cmd):PCall Tryz.prog 89 [cmdV c] (.bool (decide (bareP c))):=by
  refine en89 (by simp) (by simp [closedL,V.closed,cmdV_closed]) ?_
  have kb:=frame_bare c
  have hs:=sameF_bare c
  generalize bareC c=b at kb hs
  have no:¬ sameF b c→decide (bareP c)=false:=fun h => decide_eq_false (fun h' => h (hs.2 h'))
  unfold cmdV tasksV at kb
  simp (maxSteps:=1000000) (disch:=omega) only [rg,gD,simprocAttr,c89,cmdV,tasksV]
  refine ⟨_,kb, ?_⟩
  by_cases e1:b.key=c.key
  case neg =>
    simp (maxSteps:=1000000) (disch:=omega) only [rg,gD,simprocAttr,e1]
    (refine fin_x rfl ?_ ?_<;>simp [pack,lo,loL,V.closed,closedL,mv_closed,no (by simp [sameF,e1])])
  by_cases e2:b.name=c.name
  case neg =>
    simp (maxSteps:=1000000) (disch:=omega) only [rg,gD,simprocAttr,e1,e2]
    (refine fin_x rfl ?_ ?_<;>simp [pack,lo,loL,V.closed,closedL,mv_closed,no (by simp [sameF,e2])])
  by_cases e3:b.token=c.token
  case neg =>
    simp (maxSteps:=1000000) (disch:=omega) only [rg,gD,simprocAttr,e1,e2,e3]
    (refine fin_x rfl ?_ ?_<;>simp [pack,lo,loL,V.closed,closedL,mv_closed,no (by simp [sameF,e3])])
  by_cases e4:b.time=c.time
  case neg =>
    simp (maxSteps:=1000000) (disch:=omega) only [rg,gD,simprocAttr,e1,e2,e3,e4]
    (refine fin_x rfl ?_ ?_<;>simp [pack,lo,loL,V.closed,closedL,mv_closed,no (by simp [sameF,e4])])
  by_cases e5:b.text=c.text
  case neg =>
    simp (maxSteps:=1000000) (disch:=omega) only [rg,gD,simprocAttr,e1,e2,e3,e4,e5]
    (refine fin_x rfl ?_ ?_<;>simp [pack,lo,loL,V.closed,closedL,mv_closed,no (by simp [sameF,e5])])
  by_cases e6:b.dag.name=c.dag.name
  case neg =>
    simp (maxSteps:=1000000) (disch:=omega) only [rg,gD,simprocAttr,e1,e2,e3,e4,e5,e6]
    (refine fin_x rfl ?_ ?_<;>simp [pack,lo,loL,V.closed,closedL,mv_closed,no (by simp [sameF,e6])])
  by_cases e7:b.dag.tasks.length=c.dag.tasks.length
  case neg =>
    simp (maxSteps:=1000000) (disch:=omega) only [rg,gD,simprocAttr,e1,e2,e3,e4,e5,e6,show ¬ (b.dag.tasks.length:Int)=c.dag.tasks.length by omega]
    (refine fin_x rfl ?_ ?_<;>simp [pack,lo,loL,V.closed,closedL,mv_closed,no (by simp [sameF,e7])])
  simp (maxSteps:=1000000) (disch:=omega) only [rg,gD,simprocAttr,e1,e2,e3,e4,e5,e6,e7]
  (refine fin_x rfl ?_ ?_<;>simp [pack,lo,loL,V.closed,closedL,mv_closed,decide_eq_true (hs.1 ⟨e1,e2,e3,e4,e5,e6,e7⟩)])
/-! The writer,in few words. -/
theorem wTxt_eq (r:Str×Bool) (t:Str):wTxt r t=(r.1++(textS t).1,r.2 || decide (255 < t.length)):=by
  unfold wTxt textS
  by_cases h:65535 < t.length
  · simp [h,show 255 < t.length by omega]
  · simp [h]
theorem wNum_6 (r:Str×Bool) (n:Int):wNum r n 6=(r.1++(putS n 6).1,r.2 || !decide (0≤n∧n < 281474976710656)):=by
  unfold wNum
  have e:(256:Int) ^ (6:Int).toNat=281474976710656:=rfl
  have:decide ((putS n 6).2=0)=decide (0≤n∧n < 281474976710656):=by
    rw [decide_eq_decide,putS_ok,e]; omega
  rw [this]
theorem wNum_1 (n:Int) (h:0≤n∧n < 256):wNum ([],false) n 1=((putS n 1).1,false):=by
  unfold wNum; rw [fPut1 h]; simp
def okCmdI (c:Cmd):Prop:=c.token≤9223372036854775807∧c.time≤9223372036854775807
def okCmd (c:Cmd):Prop:=c.key.length≤140737488355328∧c.name.length≤140737488355328∧c.text.length≤140737488355328∧c.dag.tasks.length≤4611686018427387904∧(∀ t∈c.dag.tasks,t.needs.length≤4611686018427387904)∧okDagN c.dag∧okCmdI c
theorem putS_len6 (n:Int):(putS n 6).1.length≤6:=putS_len n 6
theorem frame_put (c:Cmd) (hc:okCmd c):PCall Tryz.prog 62 [cmdV c] (sV (cmdPutS c)):=by
  refine en62 (by simp) (by simp [closedL,V.closed,cmdV_closed]) ?_
  obtain ⟨o1,o2,o3,o4,o5,o6,o7,o8⟩:=hc
  have kc:=frame_clean c
  have no:¬ cmdP c→cmdPutS c=([],1):=fun h => by rw [cmdPutS,if_neg h]
  unfold cmdV tasksV at kc
  by_cases a1:c.kind < 1
  · simp (maxSteps:=1000000) (disch:=omega) only [rg,gD,simprocAttr,c62,cmdV,tasksV,a1]
    (refine fin_x rfl ?_ ?_<;>simp [pack,lo,loL,V.closed,closedL,mv_closed,sV,no (fun h => by have:=h.1; omega)])
  by_cases a2:10 < c.kind
  · simp (maxSteps:=1000000) (disch:=omega) only [rg,gD,simprocAttr,c62,cmdV,tasksV,a1,a2]
    (refine fin_x rfl ?_ ?_<;>simp [pack,lo,loL,V.closed,closedL,mv_closed,sV,no (fun h => by have:=h.2.1; omega)])
  simp (maxSteps:=1000000) (disch:=omega) only [rg,gD,simprocAttr,c62,cmdV,tasksV,a1,a2]
  refine ⟨_,kc, ?_⟩
  by_cases hb:bareP c
  case neg =>
    rw [decide_eq_false hb]
    simp (maxSteps:=1000000) (disch:=omega) only [rg,gD,simprocAttr]
    (refine fin_x rfl ?_ ?_<;>simp [pack,lo,loL,V.closed,closedL,mv_closed,sV,no (fun h => hb h.2.2.1)])
  rw [decide_eq_true hb]
  have hw1:=wNum_1 c.kind (by omega)
  have hk1:=putS_len1 c.kind
  have tk:=textS_len2 c.key
  have tn:=textS_len2 c.name
  have tt:=textS_len2 c.text
  have p6:=putS_len6 c.token
  have q6:=putS_len6 c.time
  have yes:cmdP c→cmdPutS c=(sealS ((putS c.kind 1).1++cmdBody c),0):=fun h => by rw [cmdPutS,if_pos h]; rfl
  simp (maxSteps:=1000000) (disch:=omega) only [rg,gD,simprocAttr]
  refine ⟨_,_,_,_,w_num _ 1 ([],false) c.kind 1 (by simp) (by omega) (by simp) (by simp (disch:=omega) only [upd_eq,upd_ne,wo_0,wo_1,wo_2,wrV]), ?_⟩
  rw [hw1]
  simp (maxSteps:=1000000) (disch:=omega) only [rg,gD,simprocAttr]
  generalize hB:(putS c.kind 1).1=B at hk1 yes
  rcases kinds c.kind with k | k | k | k | k | k | k | k | ⟨k1,k2,k4,k6,k5,k7,k9,k8⟩
  · -- a graph
    have kd:=dag_put c.dag o5 o4 o6
    unfold dagV tasksV at kd
    simp (maxSteps:=1000000) (disch:=omega) only [rg,gD,simprocAttr,k]
    refine ⟨_,kd, ?_⟩
    by_cases hr:refRightS c.dag=0
    · have hdl:=right_fit hr
      have hl:(dagB c.dag).length≤1000:=by
        have h1:=tsksB_len (l:=c.dag.tasks) (N:=10) hdl.2.2.2.2
        have h2:=textS_len c.dag.name
        have h3:=putS_len1 c.dag.tasks.length
        simp only [dagB,List.length_append]; omega
      have e:dagPutS c.dag=(dagB c.dag,0):=by simp [dagPutS,hr]
      rw [e]
      simp (maxSteps:=1000000) (disch:=omega) only [rg,gD,simprocAttr,sV,wrV]
      refine ⟨_,code_all .full [B,dagB c.dag] (by simp) (by simp; omega), ?_⟩
      rw [two_flat]
      simp (maxSteps:=1000000) (disch:=omega) only [rg,gD,simprocAttr,wrV]
      try refine ⟨by simp [compat,disj,nthL], ?_⟩
      refine ⟨_,_,_,_,w_end _ 1 (B++dagB c.dag,false) (by simp only [List.length_append]; omega) (by simp) (by simp (disch:=omega) only [upd_eq,upd_ne,wo_0,wo_1,wo_2,wrV]), ?_⟩
      simp (maxSteps:=1000000) (disch:=omega) only [rg,gD,simprocAttr,sV]
      have hP:cmdP c:=by
        refine ⟨by omega,by omega,hb, ?_,fun _ => hr⟩
        simp only [bareP,k,if_true] at hb
        obtain ⟨b1,b2,b3,b4,b5⟩:=hb
        simp [fitP,b1,b2,b3,b4,b5]
      (refine fin_x rfl ?_ ?_<;>simp [pack,lo,loL,V.closed,closedL,mv_closed,sV,yes hP,cmdBody,k,wEnd])
    · have e:dagPutS c.dag=([],refRightS c.dag):=by simp [dagPutS,hr]
      rw [e]
      simp (maxSteps:=1000000) (disch:=omega) only [rg,gD,simprocAttr,sV,wrV,hr]
      refine ⟨_,code_all .full [B,[]] (by simp) (by simp; omega), ?_⟩
      rw [two_flat]
      simp (maxSteps:=1000000) (disch:=omega) only [rg,gD,simprocAttr,wrV,hr]
      try refine ⟨by simp [compat,disj,nthL], ?_⟩
      refine ⟨_,_,_,_,w_end _ 1 (B,true) (by simp only; omega) (by simp) (by simp (disch:=omega) only [upd_eq,upd_ne,wo_0,wo_1,wo_2,wrV]), ?_⟩
      simp (maxSteps:=1000000) (disch:=omega) only [rg,gD,simprocAttr,sV]
      (refine fin_x rfl ?_ ?_<;>simp [pack,lo,loL,V.closed,closedL,mv_closed,sV,no (fun h => hr (h.2.2.2.2 k)),wEnd])
  · -- a start
    simp (maxSteps:=1000000) (disch:=omega) only [rg,gD,simprocAttr,k]
    refine ⟨_,_,_,_,w_text _ 1 (B,false) c.key (by simp only; omega) (by omega) (by simp) (by simp (disch:=omega) only [upd_eq,upd_ne,wo_0,wo_1,wo_2]), ?_⟩
    rw [wTxt_eq]
    simp (maxSteps:=1000000) (disch:=omega) only [rg,gD,simprocAttr]
    refine ⟨_,_,_,_,w_text _ 1 (B++(textS c.key).1,false || decide (255 < c.key.length)) c.name (by simp only [List.length_append]; omega) (by omega) (by simp) (by simp (disch:=omega) only [upd_eq,upd_ne,wo_0,wo_1,wo_2]), ?_⟩
    rw [wTxt_eq]
    simp (maxSteps:=1000000) (disch:=omega) only [rg,gD,simprocAttr]
    refine ⟨_,_,_,_,w_end _ 1 ((B++(textS c.key).1)++(textS c.name).1,(false || decide (255 < c.key.length)) || decide (255 < c.name.length)) (by simp only [List.length_append]; omega) (by simp) (by simp (disch:=omega) only [upd_eq,upd_ne,wo_0,wo_1,wo_2]), ?_⟩
    simp (maxSteps:=1000000) (disch:=omega) only [rg,gD,simprocAttr,sV]
    simp only [bareP,k,show ¬ (2:Int)=1 by omega,if_false,if_true] at hb
    by_cases hP:c.key.length≤255∧c.name.length≤255
    · have:cmdP c:=by
        refine ⟨by omega,by omega,by simpa [bareP,k] using hb, ?_,fun h => by omega⟩
        obtain ⟨b1,b2,b3,b4⟩:=hb
        simp [fitP,b1,b2,b3]; omega
      (refine fin_x rfl ?_ ?_<;>simp [pack,lo,loL,V.closed,closedL,mv_closed,sV,yes this,cmdBody,k,wEnd,show ¬ 255 < c.key.length by omega,show ¬ 255 < c.name.length by omega])
    · have:¬ cmdP c:=fun h => hP ⟨h.2.2.2.1.1,h.2.2.2.1.2.1⟩
      have e:(decide (255 < c.key.length) || decide (255 < c.name.length))=true:=by simp; omega
      (refine fin_x rfl ?_ ?_<;>simp [pack,lo,loL,V.closed,closedL,mv_closed,sV,no this,wEnd,e])
  · simp (maxSteps:=1000000) (disch:=omega) only [rg,gD,simprocAttr,k]
    refine ⟨_,_,_,_,w_num _ 1 (B,false) c.token 6 (by simp only; omega) o7 (by simp) (by simp (disch:=omega) only [upd_eq,upd_ne,wo_0,wo_1,wo_2]), ?_⟩
    rw [wNum_6]
    simp (maxSteps:=1000000) (disch:=omega) only [rg,gD,simprocAttr]
    refine ⟨_,_,_,_,w_end _ 1 (B++(putS c.token 6).1,false || !decide (0≤c.token∧c.token < 281474976710656)) (by simp only [List.length_append]; omega) (by simp) (by simp (disch:=omega) only [upd_eq,upd_ne,wo_0,wo_1,wo_2]), ?_⟩
    simp (maxSteps:=1000000) (disch:=omega) only [rg,gD,simprocAttr,sV]
    by_cases hP:0≤c.token∧c.token < 281474976710656
    · have:cmdP c:=by
        refine ⟨by omega,by omega,hb, ?_,fun h => by omega⟩
        simp [bareP,k] at hb
        obtain ⟨b1,b2,b3,b4,_⟩:=hb
        simp [fitP,b1,b2,b3,b4,hP]
      (refine fin_x rfl ?_ ?_<;>simp [pack,lo,loL,V.closed,closedL,mv_closed,sV,yes this,cmdBody,k,wEnd,hP])
    · have:¬ cmdP c:=fun h => hP ⟨h.2.2.2.1.2.2.2.1,h.2.2.2.1.2.2.2.2.1⟩
      (refine fin_x rfl ?_ ?_<;>simp [pack,lo,loL,V.closed,closedL,mv_closed,sV,no this,wEnd,hP])
  · simp (maxSteps:=1000000) (disch:=omega) only [rg,gD,simprocAttr,k]
    refine ⟨_,_,_,_,w_num _ 1 (B,false) c.token 6 (by simp only; omega) o7 (by simp) (by simp (disch:=omega) only [upd_eq,upd_ne,wo_0,wo_1,wo_2]), ?_⟩
    rw [wNum_6]
    simp (maxSteps:=1000000) (disch:=omega) only [rg,gD,simprocAttr]
    refine ⟨_,_,_,_,w_end _ 1 (B++(putS c.token 6).1,false || !decide (0≤c.token∧c.token < 281474976710656)) (by simp only [List.length_append]; omega) (by simp) (by simp (disch:=omega) only [upd_eq,upd_ne,wo_0,wo_1,wo_2]), ?_⟩
    simp (maxSteps:=1000000) (disch:=omega) only [rg,gD,simprocAttr,sV]
    by_cases hP:0≤c.token∧c.token < 281474976710656
    · have:cmdP c:=by
        refine ⟨by omega,by omega,hb, ?_,fun h => by omega⟩
        simp [bareP,k] at hb
        obtain ⟨b1,b2,b3,b4,_⟩:=hb
        simp [fitP,b1,b2,b3,b4,hP]
      (refine fin_x rfl ?_ ?_<;>simp [pack,lo,loL,V.closed,closedL,mv_closed,sV,yes this,cmdBody,k,wEnd,hP])
    · have:¬ cmdP c:=fun h => hP ⟨h.2.2.2.1.2.2.2.1,h.2.2.2.1.2.2.2.2.1⟩
      (refine fin_x rfl ?_ ?_<;>simp [pack,lo,loL,V.closed,closedL,mv_closed,sV,no this,wEnd,hP])
  · simp (maxSteps:=1000000) (disch:=omega) only [rg,gD,simprocAttr,k]
    refine ⟨_,_,_,_,w_num _ 1 (B,false) c.token 6 (by simp only; omega) o7 (by simp) (by simp (disch:=omega) only [upd_eq,upd_ne,wo_0,wo_1,wo_2]), ?_⟩
    rw [wNum_6]
    simp (maxSteps:=1000000) (disch:=omega) only [rg,gD,simprocAttr]
    refine ⟨_,_,_,_,w_text _ 1 (B++(putS c.token 6).1,false || !decide (0≤c.token∧c.token < 281474976710656)) c.text (by simp only [List.length_append]; omega) (by omega) (by simp) (by simp (disch:=omega) only [upd_eq,upd_ne,wo_0,wo_1,wo_2]), ?_⟩
    rw [wTxt_eq]
    simp (maxSteps:=1000000) (disch:=omega) only [rg,gD,simprocAttr]
    refine ⟨_,_,_,_,w_end _ 1 ((B++(putS c.token 6).1)++(textS c.text).1,(false || !decide (0≤c.token∧c.token < 281474976710656)) || decide (255 < c.text.length)) (by simp only [List.length_append]; omega) (by simp) (by simp (disch:=omega) only [upd_eq,upd_ne,wo_0,wo_1,wo_2]), ?_⟩
    simp (maxSteps:=1000000) (disch:=omega) only [rg,gD,simprocAttr,sV]
    by_cases hP:0≤c.token∧c.token < 281474976710656
    · by_cases hT:c.text.length≤255
      · have:cmdP c:=by
          refine ⟨by omega,by omega,hb, ?_,fun h => by omega⟩
          simp [bareP,k] at hb
          obtain ⟨b1,b2,b3,_⟩:=hb
          simp [fitP,b1,b2,b3,hP,hT]
        (refine fin_x rfl ?_ ?_<;>simp [pack,lo,loL,V.closed,closedL,mv_closed,sV,yes this,cmdBody,k,wEnd,hP,show ¬ 255 < c.text.length by omega])
      · have:¬ cmdP c:=fun h => hT h.2.2.2.1.2.2.1
        (refine fin_x rfl ?_ ?_<;>simp [pack,lo,loL,V.closed,closedL,mv_closed,sV,no this,wEnd,hP,show 255 < c.text.length by omega])
    · have:¬ cmdP c:=fun h => hP ⟨h.2.2.2.1.2.2.2.1,h.2.2.2.1.2.2.2.2.1⟩
      (refine fin_x rfl ?_ ?_<;>simp [pack,lo,loL,V.closed,closedL,mv_closed,sV,no this,wEnd,hP])
  · simp (maxSteps:=1000000) (disch:=omega) only [rg,gD,simprocAttr,k]
    refine ⟨_,_,_,_,w_text _ 1 (B,false) c.key (by simp only; omega) (by omega) (by simp) (by simp (disch:=omega) only [upd_eq,upd_ne,wo_0,wo_1,wo_2]), ?_⟩
    rw [wTxt_eq]
    simp (maxSteps:=1000000) (disch:=omega) only [rg,gD,simprocAttr]
    refine ⟨_,_,_,_,w_end _ 1 (B++(textS c.key).1,false || decide (255 < c.key.length)) (by simp only [List.length_append]; omega) (by simp) (by simp (disch:=omega) only [upd_eq,upd_ne,wo_0,wo_1,wo_2]), ?_⟩
    simp (maxSteps:=1000000) (disch:=omega) only [rg,gD,simprocAttr,sV]
    by_cases hT:c.key.length≤255
    · have:cmdP c:=by
        refine ⟨by omega,by omega,hb, ?_,fun h => by omega⟩
        simp [bareP,k] at hb
        obtain ⟨b1,b2,b3,b4,_⟩:=hb
        simp [fitP,b1,b2,b3,b4,hT]
      (refine fin_x rfl ?_ ?_<;>simp [pack,lo,loL,V.closed,closedL,mv_closed,sV,yes this,cmdBody,k,wEnd,show ¬ 255 < c.key.length by omega])
    · have:¬ cmdP c:=fun h => hT h.2.2.2.1.1
      (refine fin_x rfl ?_ ?_<;>simp [pack,lo,loL,V.closed,closedL,mv_closed,sV,no this,wEnd,show 255 < c.key.length by omega])
  · simp (maxSteps:=1000000) (disch:=omega) only [rg,gD,simprocAttr,k]
    refine ⟨_,_,_,_,w_text _ 1 (B,false) c.key (by simp only; omega) (by omega) (by simp) (by simp (disch:=omega) only [upd_eq,upd_ne,wo_0,wo_1,wo_2]), ?_⟩
    rw [wTxt_eq]
    simp (maxSteps:=1000000) (disch:=omega) only [rg,gD,simprocAttr]
    refine ⟨_,_,_,_,w_end _ 1 (B++(textS c.key).1,false || decide (255 < c.key.length)) (by simp only [List.length_append]; omega) (by simp) (by simp (disch:=omega) only [upd_eq,upd_ne,wo_0,wo_1,wo_2]), ?_⟩
    simp (maxSteps:=1000000) (disch:=omega) only [rg,gD,simprocAttr,sV]
    by_cases hT:c.key.length≤255
    · have:cmdP c:=by
        refine ⟨by omega,by omega,hb, ?_,fun h => by omega⟩
        simp [bareP,k] at hb
        obtain ⟨b1,b2,b3,b4,_⟩:=hb
        simp [fitP,b1,b2,b3,b4,hT]
      (refine fin_x rfl ?_ ?_<;>simp [pack,lo,loL,V.closed,closedL,mv_closed,sV,yes this,cmdBody,k,wEnd,show ¬ 255 < c.key.length by omega])
    · have:¬ cmdP c:=fun h => hT h.2.2.2.1.1
      (refine fin_x rfl ?_ ?_<;>simp [pack,lo,loL,V.closed,closedL,mv_closed,sV,no this,wEnd,show 255 < c.key.length by omega])
  · simp (maxSteps:=1000000) (disch:=omega) only [rg,gD,simprocAttr,k]
    refine ⟨_,_,_,_,w_num _ 1 (B,false) c.time 6 (by simp only; omega) o8 (by simp) (by simp (disch:=omega) only [upd_eq,upd_ne,wo_0,wo_1,wo_2]), ?_⟩
    rw [wNum_6]
    simp (maxSteps:=1000000) (disch:=omega) only [rg,gD,simprocAttr]
    refine ⟨_,_,_,_,w_end _ 1 (B++(putS c.time 6).1,false || !decide (0≤c.time∧c.time < 281474976710656)) (by simp only [List.length_append]; omega) (by simp) (by simp (disch:=omega) only [upd_eq,upd_ne,wo_0,wo_1,wo_2]), ?_⟩
    simp (maxSteps:=1000000) (disch:=omega) only [rg,gD,simprocAttr,sV]
    by_cases hP:0≤c.time∧c.time < 281474976710656
    · have:cmdP c:=by
        refine ⟨by omega,by omega,hb, ?_,fun h => by omega⟩
        simp [bareP,k] at hb
        obtain ⟨b1,b2,b3,b4,_⟩:=hb
        simp [fitP,b1,b2,b3,b4,hP]
      (refine fin_x rfl ?_ ?_<;>simp [pack,lo,loL,V.closed,closedL,mv_closed,sV,yes this,cmdBody,k,wEnd,hP])
    · have:¬ cmdP c:=fun h => hP ⟨h.2.2.2.1.2.2.2.2.2.1,h.2.2.2.1.2.2.2.2.2.2⟩
      (refine fin_x rfl ?_ ?_<;>simp [pack,lo,loL,V.closed,closedL,mv_closed,sV,no this,wEnd,hP])
  · simp (maxSteps:=1000000) (disch:=omega) only [rg,gD,simprocAttr,k1,k2,k4,k6,k5,k7,k9,k8]
    refine ⟨_,_,_,_,w_end _ 1 (B,false) (by simp only; omega) (by simp) (by simp (disch:=omega) only [upd_eq,upd_ne,wo_0,wo_1,wo_2]), ?_⟩
    simp (maxSteps:=1000000) (disch:=omega) only [rg,gD,simprocAttr,sV]
    have:cmdP c:=by
      refine ⟨by omega,by omega,hb, ?_,fun h => absurd h k1⟩
      simp [bareP,k1,k2,k4,k6,k5,k7,k9,k8] at hb
      obtain ⟨b1,b2,b3,b4,b5,_⟩:=hb
      simp [fitP,b1,b2,b3,b4,b5]
    (refine fin_x rfl ?_ ?_<;>simp [pack,lo,loL,V.closed,closedL,mv_closed,sV,yes this,cmdBody,k1,k2,k4,k6,k5,k7,k9,k8,wEnd])
def no1P (c:Cmd):Prop:=c.key=[]∧c.name=[]∧c.token=0∧c.time=0∧c.text=[]
instance (c:Cmd):Decidable (no1P c):=by unfold no1P; infer_instance
def no2P (c:Cmd):Prop:=c.token=0∧c.time=0∧c.text=[]∧noDag c.dag
instance (c:Cmd):Decidable (no2P c):=by unfold no2P; infer_instance
def no46P (c:Cmd):Prop:=c.key=[]∧c.name=[]∧c.time=0∧c.text=[]∧noDag c.dag
instance (c:Cmd):Decidable (no46P c):=by unfold no46P; infer_instance
def no5P (c:Cmd):Prop:=c.key=[]∧c.name=[]∧c.time=0∧noDag c.dag
instance (c:Cmd):Decidable (no5P c):=by unfold no5P; infer_instance
def no79P (c:Cmd):Prop:=c.name=[]∧c.token=0∧c.time=0∧c.text=[]∧noDag c.dag
instance (c:Cmd):Decidable (no79P c):=by unfold no79P; infer_instance
def no8P (c:Cmd):Prop:=c.key=[]∧c.name=[]∧c.token=0∧c.text=[]∧noDag c.dag
instance (c:Cmd):Decidable (no8P c):=by unfold no8P; infer_instance
def no0P (c:Cmd):Prop:=c.key=[]∧c.name=[]∧c.token=0∧c.time=0∧c.text=[]∧noDag c.dag
instance (c:Cmd):Decidable (no0P c):=by unfold no0P; infer_instance
/-! Alike. -/
theorem fSame_ints (l l':List Int) (hl:l.length≤4611686018427387904) (hl':l'.length≤4611686018427387904):PCall Tryz.prog 23 [.fsl .loose 1 (vI l),.fsl .loose 1 (vI l')] (.bool (decide (l=l'))):=by
  refine en23 (by simp) (by simp [closedL,V.closed,vI_closed]) ?_
  simp (maxSteps:=1000000) (disch:=omega) only [rg,gD,simprocAttr,c23,vI_len]
  by_cases c:l.length=l'.length
  case neg =>
    simp (maxSteps:=1000000) (disch:=omega) only [rg,gD,simprocAttr,show ¬ (l.length:Int)=l'.length by omega]
    (refine fin_x rfl ?_ ?_<;>simp [pack,lo,loL,V.closed,closedL,mv_closed,decide_eq_false (fun e:l=l' => c (by rw [e]))])
  simp (maxSteps:=1000000) (disch:=omega) only [rg,gD,simprocAttr,show (l.length:Int)=l'.length by omega]
  refine x_itp l.length (fun i => l=l'↔l.drop i=l'.drop i) (fun i => [(0,.fsl .loose 1 (vI l)),(1,.fsl .loose 1 (vI l')),(12,.int .i64 l.length),(13,.int .i64 i)]) (by simp) (by simp [c]) ?_
  intro T i hi hs hN hX hR
  simp (maxSteps:=1000000) (disch:=omega) only [rg,gD,simprocAttr]
  refine ⟨fun h => ?_,fun h => ?_⟩
  · have i1:i < l.length:=by omega
    have i2:i < l'.length:=by omega
    rw [List.drop_eq_getElem_cons i1,List.drop_eq_getElem_cons i2,List.cons.injEq] at hs
    simp (maxSteps:=1000000) (disch:=omega) only [rg,gD,simprocAttr,vI_get]
    by_cases he:l[i]=l'[i]
    case neg =>
      simp (maxSteps:=1000000) (disch:=omega) only [rg,gD,simprocAttr,he]
      try refine ⟨by simp [compat,disj,nthL], ?_⟩
      refine hR _ _ ?_
      simp (maxSteps:=1000000) (disch:=omega) only [rg,gD,simprocAttr]
      (refine fin_x rfl ?_ ?_<;>simp [pack,lo,loL,V.closed,closedL,mv_closed,decide_eq_false (fun e:l=l' => he (hs.1 e).1)])
    · simp (maxSteps:=1000000) (disch:=omega) only [rg,gD,simprocAttr,he]
      try refine ⟨by simp [compat,disj,nthL], ?_⟩
      exact hN _ i1 (hs.trans (and_iff_right he)) rfl
  · obtain rfl:i=l.length:=by omega
    refine hX _ _ _ ?_
    simp (maxSteps:=1000000) (disch:=omega) only [rg,gD,simprocAttr]
    refine x_frz0 ?_
    simp (maxSteps:=1000000) (disch:=omega) only [rg,gD,simprocAttr]
    rw [List.drop_length,c,List.drop_length] at hs
    (refine fin_x rfl ?_ ?_<;>simp [pack,lo,loL,V.closed,closedL,mv_closed,decide_eq_true (hs.2 rfl)])
def fTaskEq (a b:Task):Prop:=a.needs=b.needs∧a.tries=b.tries∧a.wait=b.wait∧a.lease=b.lease
instance (a b:Task):Decidable (fTaskEq a b):=by unfold fTaskEq; infer_instance
theorem fTaskEq_eq {a b:Task}:fTaskEq a b↔a=b:=by
  obtain ⟨a1,a2,a3,a4⟩:=a
  obtain ⟨b1,b2,b3,b4⟩:=b
  simp [fTaskEq]
instance:DecidableEq Task:=fun a b => decidable_of_iff _ fTaskEq_eq
theorem fDag_ext {a b:Dag}:(a=b)↔(a.name=b.name∧a.tasks=b.tasks):=by
  obtain ⟨a1,a2⟩:=a
  obtain ⟨b1,b2⟩:=b
  simp
instance:DecidableEq Dag:=fun a b => decidable_of_iff _ fDag_ext.symm
def fOkDagL (d:Dag):Prop:=d.tasks.length≤4611686018427387904∧∀ t∈d.tasks,t.needs.length≤4611686018427387904
theorem fLike_dag (a b:Dag) (ha:fOkDagL a) (hb:fOkDagL b):PCall Tryz.prog 42 [dagV a,dagV b] (.bool (decide (a=b))):=by
  refine en42 (by simp) (by simp [closedL,dagV_closed]) ?_
  simp (maxSteps:=1000000) (disch:=omega) only [rg,gD,simprocAttr,c42,dagV,tasksV]
  by_cases c1:a.name=b.name
  case neg =>
    simp (maxSteps:=1000000) (disch:=omega) only [rg,gD,simprocAttr,c1]
    (refine fin_x rfl ?_ ?_<;>simp [pack,lo,loL,V.closed,closedL,mv_closed,decide_eq_false (fun e:a=b => c1 (by rw [e]))])
  by_cases c:a.tasks.length=b.tasks.length
  case neg =>
    simp (maxSteps:=1000000) (disch:=omega) only [rg,gD,simprocAttr,c1,show ¬ (a.tasks.length:Int)=b.tasks.length by omega]
    (refine fin_x rfl ?_ ?_<;>simp [pack,lo,loL,V.closed,closedL,mv_closed,decide_eq_false (fun e:a=b => c (by rw [e]))])
  simp (maxSteps:=1000000) (disch:=omega) only [rg,gD,simprocAttr,c1,show (a.tasks.length:Int)=b.tasks.length by omega]
  refine x_it a.tasks.length (fun i σ H => 2≤H.n∧H.m 1=some (.arr 2 [.agg [.str b.name,.fsl .loose 4 (mv taskV b.tasks)]])∧(a=b↔a.tasks.drop i=b.tasks.drop i)∧σ=[(3,.ptr 1 0 0),(23,tasksV a.tasks),(24,.int .i64 a.tasks.length),(25,.int .i64 i)]) ⟨Nat.le_refl 2,(by simp (disch:=omega) only [upd_eq,upd_ne,wo_0,wo_1,wo_2]),by simp [fDag_ext,c1],by simp [tasksV,c]⟩ ?_
  rintro T i σ ⟨q,m⟩ hi ⟨hq,e1,hs,rfl⟩ hN hX hR
  simp only at hq e1
  have ha1:=ha.1
  simp (maxSteps:=1000000) (disch:=omega) only [rg,gD,simprocAttr,tasksV]
  refine ⟨fun h => ?_,fun h => ?_⟩
  · have i1:i < a.tasks.length:=by omega
    have i2:i < b.tasks.length:=by omega
    have hq1:1≠q:=by omega
    have hq2:1≠q+1:=by omega
    rw [List.drop_eq_getElem_cons i1,List.drop_eq_getElem_cons i2,List.cons.injEq] at hs
    have ks:=fSame_ints a.tasks[i].needs b.tasks[i].needs (ha.2 _ (List.getElem_mem i1)) (hb.2 _ (List.getElem_mem i2))
    simp (maxSteps:=1000000) (disch:=omega) only [rg,gD,simprocAttr,taskV,e1,vI_len,show (a.tasks.length:Int)=b.tasks.length by omega]
    refine ⟨_,ks, ?_⟩
    by_cases d1:a.tasks[i].needs=b.tasks[i].needs
    case neg =>
      simp (maxSteps:=1000000) (disch:=omega) only [rg,gD,simprocAttr,decide_eq_false d1]
      refine hR _ _ ?_
      simp (maxSteps:=1000000) (disch:=omega) only [rg,gD,simprocAttr]
      (refine fin_x rfl ?_ ?_<;>simp [pack,lo,loL,V.closed,closedL,mv_closed,decide_eq_false (fun e:a=b => d1 (by rw [(hs.1 e).1]))])
    by_cases d2:a.tasks[i].tries=b.tasks[i].tries
    case neg =>
      simp (maxSteps:=1000000) (disch:=omega) only [rg,gD,simprocAttr,decide_eq_true d1,d2]
      refine hR _ _ ?_
      simp (maxSteps:=1000000) (disch:=omega) only [rg,gD,simprocAttr]
      (refine fin_x rfl ?_ ?_<;>simp [pack,lo,loL,V.closed,closedL,mv_closed,decide_eq_false (fun e:a=b => d2 (by rw [(hs.1 e).1]))])
    by_cases d3:a.tasks[i].wait=b.tasks[i].wait
    case neg =>
      simp (maxSteps:=1000000) (disch:=omega) only [rg,gD,simprocAttr,decide_eq_true d1,d2,d3]
      refine hR _ _ ?_
      simp (maxSteps:=1000000) (disch:=omega) only [rg,gD,simprocAttr]
      (refine fin_x rfl ?_ ?_<;>simp [pack,lo,loL,V.closed,closedL,mv_closed,decide_eq_false (fun e:a=b => d3 (by rw [(hs.1 e).1]))])
    by_cases d4:a.tasks[i].lease=b.tasks[i].lease
    case neg =>
      simp (maxSteps:=1000000) (disch:=omega) only [rg,gD,simprocAttr,decide_eq_true d1,d2,d3,d4]
      refine hR _ _ ?_
      simp (maxSteps:=1000000) (disch:=omega) only [rg,gD,simprocAttr]
      (refine fin_x rfl ?_ ?_<;>simp [pack,lo,loL,V.closed,closedL,mv_closed,decide_eq_false (fun e:a=b => d4 (by rw [(hs.1 e).1]))])
    simp (maxSteps:=1000000) (disch:=omega) only [rg,gD,simprocAttr,decide_eq_true d1,d2,d3,d4]
    refine hN _ _ i1 ⟨by show 2≤q+1+1; omega,(by simp (disch:=omega) only [upd_eq,upd_ne,wo_0,wo_1,wo_2,e1]),hs.trans (and_iff_right (fTaskEq_eq.1 ⟨d1,d2,d3,d4⟩)),by simp [tasksV,c]⟩
  · obtain rfl:i=a.tasks.length:=by omega
    refine hX _ _ _ ?_
    simp (maxSteps:=1000000) (disch:=omega) only [rg,gD,simprocAttr]
    refine x_frz0 ?_
    simp (maxSteps:=1000000) (disch:=omega) only [rg,gD,simprocAttr]
    rw [List.drop_length,c,List.drop_length] at hs
    (refine fin_x rfl ?_ ?_<;>simp [pack,lo,loL,V.closed,closedL,mv_closed,decide_eq_true (hs.2 rfl)])
theorem cmd_ext {a b:Cmd}:(a=b)↔(a.kind=b.kind∧a.key=b.key∧a.name=b.name∧a.token=b.token∧a.time=b.time∧a.text=b.text∧a.dag=b.dag):=by
  obtain ⟨a1,a2,a3,a4,a5,a6,a7⟩:=a
  obtain ⟨b1,b2,b3,b4,b5,b6,b7⟩:=b
  simp
instance:DecidableEq Cmd:=fun a b => decidable_of_iff _ cmd_ext.symm
theorem like_cmd (a b:Cmd) (ha:fOkDagL a.dag) (hb:fOkDagL b.dag):PCall Tryz.prog 24 [cmdV a,cmdV b] (.bool (decide (a=b))):=by
  refine en24 (by simp) (by simp [closedL,cmdV_closed]) ?_
  have kd:=fLike_dag a.dag b.dag ha hb
  unfold dagV tasksV at kd
  by_cases c0:a.kind=b.kind
  case neg =>
    simp (maxSteps:=1000000) (disch:=omega) only [rg,gD,simprocAttr,c24,cmdV,tasksV,c0]
    (refine fin_x rfl ?_ ?_<;>simp [pack,lo,loL,V.closed,closedL,mv_closed,decide_eq_false (fun e:a=b => c0 (by rw [e]))])
  by_cases c1:a.key=b.key
  case neg =>
    simp (maxSteps:=1000000) (disch:=omega) only [rg,gD,simprocAttr,c24,cmdV,tasksV,c0,c1]
    (refine fin_x rfl ?_ ?_<;>simp [pack,lo,loL,V.closed,closedL,mv_closed,decide_eq_false (fun e:a=b => c1 (by rw [e]))])
  by_cases c2:a.name=b.name
  case neg =>
    simp (maxSteps:=1000000) (disch:=omega) only [rg,gD,simprocAttr,c24,cmdV,tasksV,c0,c1,c2]
    (refine fin_x rfl ?_ ?_<;>simp [pack,lo,loL,V.closed,closedL,mv_closed,decide_eq_false (fun e:a=b => c2 (by rw [e]))])
  by_cases c3:a.token=b.token
  case neg =>
    simp (maxSteps:=1000000) (disch:=omega) only [rg,gD,simprocAttr,c24,cmdV,tasksV,c0,c1,c2,c3]
    (refine fin_x rfl ?_ ?_<;>simp [pack,lo,loL,V.closed,closedL,mv_closed,decide_eq_false (fun e:a=b => c3 (by rw [e]))])
  by_cases c4:a.time=b.time
  case neg =>
    simp (maxSteps:=1000000) (disch:=omega) only [rg,gD,simprocAttr,c24,cmdV,tasksV,c0,c1,c2,c3,c4]
    (refine fin_x rfl ?_ ?_<;>simp [pack,lo,loL,V.closed,closedL,mv_closed,decide_eq_false (fun e:a=b => c4 (by rw [e]))])
  by_cases c5:a.text=b.text
  case neg =>
    simp (maxSteps:=1000000) (disch:=omega) only [rg,gD,simprocAttr,c24,cmdV,tasksV,c0,c1,c2,c3,c4,c5]
    (refine fin_x rfl ?_ ?_<;>simp [pack,lo,loL,V.closed,closedL,mv_closed,decide_eq_false (fun e:a=b => c5 (by rw [e]))])
  simp (maxSteps:=1000000) (disch:=omega) only [rg,gD,simprocAttr,c24,cmdV,tasksV,c0,c1,c2,c3,c4,c5]
  refine ⟨_,kd, ?_⟩
  simp (maxSteps:=1000000) (disch:=omega) only [rg,gD,simprocAttr]
  have:decide (a=b)=decide (a.dag=b.dag):=by rw [decide_eq_decide,cmd_ext]; simp [c0,c1,c2,c3,c4,c5]
  (refine fin_x rfl ?_ ?_<;>simp [pack,lo,loL,V.closed,closedL,mv_closed,this])
section
open Go Go.RowKit
def lowB (b:UInt8):Bool:=decide (97≤b.toNat∧b.toNat≤122)
def nameB (s:Str):Bool:=decide (1≤s.length∧s.length≤16) && s.all lowB
def headB (s:ByteArray) (pos:Nat):Prop:=∀ j,j < pos→∀ b,s.data.toList[j]?=some b→lowB b=true
theorem headB_step {s:ByteArray} {pos:Nat} (h:pos < s.size) (h1:¬ ((Utf8.decode s pos).1 < 97)) (h2:¬ (122 < (Utf8.decode s pos).1)) (hh:headB s pos):headB s (pos+(Utf8.decode s pos).2)∧(Utf8.decode s pos).2=1:=by
  have ha:(s[pos]'h).toNat < 128:=by
    rcases Nat.lt_or_ge (s[pos]'h).toNat 128 with h' | h'
    · exact h'
    · have:=(decode_high s pos h h').1; omega
  rw [decode_ascii s pos h ha] at h1 h2 ⊢
  simp only at h1 h2 ⊢
  refine ⟨fun j hj b hb => ?_,by simp⟩
  by_cases e:j=pos
  · subst e
    have:s.data.toList[j]?=some (s[j]'h):=by
      simp only [Array.getElem?_toList]
      exact Array.getElem?_eq_getElem h
    rw [this] at hb; simp at hb; subst hb
    simp only [lowB,decide_eq_true_eq]; omega
  · exact hh j (by omega) b hb
theorem headB_stop {s:ByteArray} {pos:Nat} (h:pos < s.size) (h1:(Utf8.decode s pos).1 < 97∨122 < (Utf8.decode s pos).1):s.data.toList.all lowB=false:=by
  rw [List.all_eq_false]
  refine ⟨s[pos]'h, ?_, ?_⟩
  · have h':pos < s.data.toList.length:=by rw [Array.length_toList]; exact h
    exact (List.getElem_mem h':s.data.toList[pos]∈s.data.toList)
  · intro hl
    simp only [lowB,decide_eq_true_eq] at hl
    rw [decode_ascii s pos h (by omega)] at h1
    simp only at h1; omega
theorem headB_all {s:ByteArray} {pos:Nat} (h:¬ pos < s.size) (hh:headB s pos):s.data.toList.all lowB=true:=by
  rw [List.all_eq_true]
  intro b hb
  obtain ⟨j,hj⟩:=List.mem_iff_getElem?.1 hb
  have:=(List.getElem?_eq_some_iff.1 hj).1
  exact hh j (by simp only [Array.length_toList] at this; simp only [ByteArray.size] at h; omega) b hj
set_option maxRecDepth 1000000 in
theorem name_walk (s:ByteArray) (w:World) :
    Calls Tryz.prog 64 #[.string s] w fun e w' => e=.returned (.bool (nameB s.data.toList))∧Below w.heap.size w w':=by
  have hsz:s.data.toList.length=s.size:=by rw [Array.length_toList]; rfl
  have bel:∀ pos,Below w.heap.size w (w.iter s pos):=fun pos => (Below.refl _ w).alloc (Nat.le_refl _) _
  go_enter Tryz.func64,Tryz.ntmps64
  by_cases c1:(s.size:Int) < 1
  · go_wp2
    go_ret
    exact ⟨by rw [nameB,hsz,decide_eq_false (by omega)]; rfl,.refl _ _⟩
  by_cases c2:(16:Int) < s.size
  · go_wp2
    go_ret
    exact ⟨by rw [nameB,hsz,decide_eq_false (by omega)]; rfl,.refl _ _⟩
  have hn:nameB s.data.toList=s.data.toList.all lowB:=by rw [nameB,hsz,decide_eq_true (by omega),Bool.true_and]
  go_wp2
  go_loopw [] (fun w' => ∃ pos:Nat,w'=w.iter s pos∧headB s pos) (fun w' => s.size - w'.iterPos w.heap.size)
  case atStart => exact ⟨0,rfl,fun j hj => by omega⟩
  case round =>
    obtain ⟨pos,rfl,hh⟩:=hrel
    by_cases hp:pos < s.size
    · have hnx:∀ ty,(Instr.next (.pointer (some ⟨w.heap.size,0,none⟩)) true ty).run Tryz.prog (w.iter s pos)=_:=fun ty => run_next_any w s pos ty hp
      by_cases d1:(((Utf8.decode s pos).1:Nat):Int) < 97
      · have hf:nameB s.data.toList=false:=by rw [hn,headB_stop hp (.inl (by omega))]
        clear hn
        go_wp2
        go_ret
        exact ⟨by first | rfl | (rw [hf]; rfl),bel _⟩
      by_cases d2:(122:Int) < (((Utf8.decode s pos).1:Nat):Int)
      · have hf:nameB s.data.toList=false:=by rw [hn,headB_stop hp (.inr (by omega))]
        clear hn
        go_wp2
        go_ret
        exact ⟨by first | rfl | (rw [hf]; rfl),bel _⟩
      obtain ⟨k1,k2⟩:=headB_step hp (by omega) (by omega) hh
      go_wp2
      go_roundw
      case rel => first | exact ⟨_,rfl,k1⟩ | (rw [k2] at k1; exact ⟨_,rfl,k1⟩)
      case measure =>
        simp
        omega
    · have hnx:∀ ty,(Instr.next (.pointer (some ⟨w.heap.size,0,none⟩)) true ty).run Tryz.prog (w.iter s pos)=_:=fun ty => run_next_end w s pos ty hp
      have hf:nameB s.data.toList=true:=by rw [hn,headB_all hp hh]
      clear hn
      go_wp2
      go_ret
      exact ⟨by first | rfl | (rw [hf]; rfl),bel _⟩
theorem p_name (s:Str):PCall Tryz.prog 64 [.str s] (.bool (nameB s)):=by
  refine .of_below ⟨Tryz.f64,Tryz.func64,rfl,by kernel_rfl⟩ fun g m w xs hs hx => ?_
  simp only [RC,R] at hx
  obtain ⟨y,ys,e1,rfl,rfl⟩:=hx
  obtain rfl:xs=#[.string ⟨s.toArray⟩]:=by apply Array.ext'; simpa using e1
  refine (name_walk ⟨s.toArray⟩ w).mono ?_
  rintro e w' ⟨rfl,hw⟩
  exact ⟨_,rfl,by simp [R],hw⟩
end
structure Stp where
  cmd:Cmd
  check:Bool
  crash:Bool
  masks:List Int
structure Pln where
  size:Int
  steps:List Stp
def stpV (s:Stp):V:=.agg [.int .i64 s.cmd.kind,.str s.cmd.key,.str s.cmd.name,.int .i64 s.cmd.token,.int .i64 s.cmd.time,.str s.cmd.text,.str s.cmd.dag.name,tasksV s.cmd.dag.tasks,.bool s.check,.bool s.crash,.fsl .loose 1 (vI s.masks)]
def plnV (p:Pln):V:=.agg [.int .i64 p.size,.fsl .loose 11 (mv stpV p.steps)]
theorem stpV_closed (s:Stp):(stpV s).closed=true:=by simp [stpV,V.closed,closedL,tasksV,vI_closed,mv_closed taskV_closed]
theorem plnV_closed (p:Pln):(plnV p).closed=true:=by simp [plnV,V.closed,closedL,mv_closed stpV_closed]
def timeOk (c:Cmd):Bool:=decide (c.token≤1099511627776∧c.time≤1099511627776)
def wordsOk (c:Cmd):Bool :=
  if c.kind=1 then nameB c.dag.name
  else if c.kind=2 then nameB c.key && nameB c.name
  else if c.kind=5 then decide (c.text=[]) || nameB c.text
  else if c.kind=7∨c.kind=9 then nameB c.key
  else true
def lineCmd (c:Cmd):Bool:=decide (cmdP c) && timeOk c && wordsOk c
def noneC (c:Cmd):Bool:=decide (c.kind=0∧c.key=[]∧c.name=[]∧c.token=0∧c.time=0∧c.text=[]∧noDag c.dag)
def maskB (m:Int):Bool:=decide (0≤m∧m≤255)
def stpB (s:Stp):Bool :=
  if s.crash then !s.check && noneC s.cmd && decide (s.masks.length≤64) && s.masks.all maskB
  else if s.check then noneC s.cmd && decide (s.masks.length=0)
  else lineCmd s.cmd && decide (s.masks.length=0)
def planB (p:Pln):Bool:=decide (24≤p.size∧p.size≤200) && decide (p.steps.length≤200) && p.steps.all stpB
/-! Lines. -/
def wCrash:Str:=[99,114,97,115,104]
def wCheck:Str:=[99,104,101,99,107]
def wGraph:Str:=[103,114,97,112,104]
def wStart:Str:=[115,116,97,114,116]
def wPoll:Str:=[112,111,108,108]
def wBeat:Str:=[98,101,97,116]
def wDone:Str:=[100,111,110,101]
def wFail:Str:=[102,97,105,108]
def wCancel:Str:=[99,97,110,99,101,108]
def wTick:Str:=[116,105,99,107]
def wState:Str:=[115,116,97,116,101]
def wSync:Str:=[115,121,110,99]
def wSize:Str:=[115,105,122,101]
def numW (l:List Int):List Str:=l.map Lib.itoa
def taskW (t:Task):Str:=Lib.join (numW ([t.tries,t.wait,t.lease]++t.needs)) [44]
def wordsL (c:Cmd):List Str :=
  if c.kind=1 then [wGraph,c.dag.name]++c.dag.tasks.map taskW
  else if c.kind=2 then [wStart,c.key,c.name]
  else if c.kind=3 then [wPoll]
  else if c.kind=4 then [wBeat,Lib.itoa c.token]
  else if c.kind=5 then (if c.text=[] then [wDone,Lib.itoa c.token] else [wDone,Lib.itoa c.token,c.text])
  else if c.kind=6 then [wFail,Lib.itoa c.token]
  else if c.kind=7 then [wCancel,c.key]
  else if c.kind=8 then [wTick,Lib.itoa c.time]
  else if c.kind=9 then [wState,c.key]
  else [wSync]
def wordsS (s:Stp):List Str :=
  if s.crash then [wCrash]++numW s.masks else if s.check then [wCheck] else wordsL s.cmd
def lineW (ws:List Str):Str:=Lib.join ws [32]++[10]
def lineS (s:Stp):Str:=lineW (wordsS s)
def sizeW (n:Int):Str:=lineW [wSize,Lib.itoa n]
def planT (p:Pln):Str:=sizeW p.size++(p.steps.map lineS).flatten
def printS (p:Pln):Str×Int:=if planB p then (planT p,0) else ([],1)
/-! Lengths. -/
theorem digits_pos (u:Nat):1≤(Lib.decDigits u).length:=by
  rw [Lib.decDigits]; split<;>simp
theorem digits_len:∀ (k u:Nat),u < 10 ^ (k+1)→(Lib.decDigits u).length≤k+1
  | 0,u,h => by rw [Lib.decDigits,dif_pos (by simpa using h)]; simp
  | k+1,u,h => by
    rw [Lib.decDigits]
    split
    · simp
    · have:=digits_len k (u / 10) (by rw [Nat.div_lt_iff_lt_mul (by omega)]; rw [Nat.pow_succ] at h; exact h)
      simp only [List.length_append,List.length_singleton]; omega
theorem itoa_len {n:Int} (h:-9223372036854775808≤n∧n≤9223372036854775807):(Lib.itoa n).length≤20:=by
  unfold Lib.itoa
  split
  · have := digits_len 18 n.natAbs (by have : (10 : Nat) ^ (18 + 1) = 10000000000000000000 := by decide
                                       omega)
    simp only [List.length_cons]; omega
  · have := digits_len 18 n.toNat (by have : (10 : Nat) ^ (18 + 1) = 10000000000000000000 := by decide
                                      omega)
    omega
theorem join_len {l:List Str} {sep:Str} {k:Nat} (h:∀ x∈l,x.length≤k):(Lib.join l sep).length≤l.length*(sep.length+k):=by
  cases l with
  | nil => simp [Lib.join_nil]
  | cons a l =>
    rw [Lib.join_cons]
    have h1:=h a (by simp)
    have h2:(Lib.joinTail sep l).length≤l.length*(sep.length+k):=by
      have hl:∀ x∈l,x.length≤k:=fun x hx => h x (by simp [hx])
      clear h h1
      induction l with
      | nil => simp [Lib.joinTail]
      | cons b l ih =>
        have:=ih (fun x hx => hl x (by simp [hx]))
        have hb:=hl b (by simp)
        simp only [Lib.joinTail,List.map_cons,List.flatten_cons,List.length_append,List.length_cons] at this ⊢
        rw [Nat.add_mul]; omega
    simp only [List.length_append,List.length_cons]
    rw [Nat.add_mul]; omega
def cutC (c:UInt8):Str→Str×Str×Bool
  | [] => ([],[],false)
  | b::s => if b=c then ([],s,true) else (b::(cutC c s).1,(cutC c s).2.1,(cutC c s).2.2)
def splitC (c:UInt8):Str→List Str
  | [] => [[]]
  | b::s => if b=c then []::splitC c s else (b::(splitC c s).headD [])::(splitC c s).tail
theorem splitC_ne (c:UInt8) (s:Str):splitC c s≠[]:=by
  cases s with
  | nil => simp [splitC]
  | cons b s => simp only [splitC]; split<;>simp
theorem index_c (c:UInt8):∀ s:Str,(Lib.index s [c]=-1∧(cutC c s).2.2=false∧(cutC c s).1=s∧(cutC c s).2.1=[]) ∨
    ∃ i:Nat,Lib.index s [c]=i∧i < s.length∧(cutC c s).2.2=true∧(cutC c s).1=s.take i∧(cutC c s).2.1=s.drop (i+1)
  | [] => .inl ⟨by simp [Lib.index],rfl,rfl,rfl⟩
  | b::s => by
    by_cases h:b=c
    · subst h
      exact .inr ⟨0,by simp [Lib.index],by simp,by simp [cutC],by simp [cutC],by simp [cutC]⟩
    · have h0:([c].isPrefixOf (b::s))=false:=by simp [List.isPrefixOf,Ne.symm h]
      rcases index_c c s with ⟨h1,h2,h3,h4⟩ | ⟨i,h1,h2,h3,h4,h5⟩
      · exact .inl ⟨by simp [Lib.index,h0,h1],by simp [cutC,h,h2],by simp [cutC,h,h3],by simp [cutC,h,h4]⟩
      · have hne:¬ ((i:Int)=-1):=by omega
        refine .inr ⟨i+1, ?_,by simp; omega,by simp [cutC,h,h3],by simp [cutC,h,h4],by simp [cutC,h,h5]⟩
        simp [Lib.index,h0,h1,hne]
theorem cut_c (c:UInt8) (s:Str):Lib.cut s [c]=cutC c s:=by
  have e:cutC c s=((cutC c s).1,(cutC c s).2.1,(cutC c s).2.2):=rfl
  unfold Lib.cut
  rcases index_c c s with ⟨h1,h2,h3,h4⟩ | ⟨i,h1,h2,h3,h4,h5⟩
  · rw [h1,if_neg (by omega),e,h2,h3,h4]
  · rw [h1,if_pos (by omega),e,h3,h4,h5]
    simp only [Int.toNat_natCast,List.length_singleton]
theorem split_cut (c:UInt8):∀ s:Str,splitC c s=if (cutC c s).2.2=true then (cutC c s).1::splitC c (cutC c s).2.1 else [s]
  | [] => by simp [splitC,cutC]
  | b::s => by
    by_cases h:b=c
    · simp [splitC,cutC,h]
    · simp only [splitC,cutC,if_neg h]
      rw [split_cut c s]
      by_cases g:(cutC c s).2.2=true
      · simp [g]
      · simp [g]
theorem cut_len (c:UInt8) (s:Str) (h:(cutC c s).2.2=true):(cutC c s).2.1.length < s.length∧(cutC c s).1.length < s.length:=by
  rcases index_c c s with ⟨h1,h2,h3,h4⟩ | ⟨i,h1,h2,h3,h4,h5⟩
  · rw [h2] at h; cases h
  · rw [h4,h5]; simp; omega
theorem count_c (c:UInt8):∀ (f:Nat) (s:Str),s.length≤f→∀ k,Lib.countFrom [c] f s≤k→Lib.splitK [c] 0 k s=splitC c s
  | 0,s,hf,k,_ => by
    have:s=[]:=by cases s; rfl; simp at hf
    subst this
    cases k<;>simp [Lib.splitK,splitC,Lib.index]
  | f+1,s,hf,k,hk => by
    rw [split_cut]
    rcases index_c c s with ⟨h1,h2,h3,h4⟩ | ⟨i,h1,h2,h3,h4,h5⟩
    · rw [h2]
      cases k<;>simp [Lib.splitK,h1]
    · have hne:¬ ((i:Int)=-1):=by omega
      rw [h3,if_pos rfl]
      rw [Lib.countFrom,h1] at hk
      simp only [beq_iff_eq,hne,if_false,Int.toNat_natCast,List.length_singleton] at hk
      cases k with
      | zero => omega
      | succ k =>
        rw [Lib.splitK,h1]
        simp only [beq_iff_eq,hne,if_false,Int.toNat_natCast,List.length_singleton,Nat.add_zero]
        rw [count_c c f (s.drop (i+1)) (by simp; omega) k (by omega),h4,h5]
theorem splitC_len (c:UInt8):∀ s:Str,(splitC c s).length≤s.length+1
  | [] => by simp [splitC]
  | b::s => by
    have:=splitC_len c s
    have h0:=splitC_ne c s
    simp only [splitC]; split
    · simp; omega
    · simp only [List.length_cons,List.length_tail]; omega
/-! Joined again. -/
theorem tail_one (sep:Str) (a:Str) (l:List Str):Lib.joinTail sep (a::l)=sep++a++Lib.joinTail sep l:=by simp [Lib.joinTail]
theorem join_split (c:UInt8):∀ s:Str,Lib.join (splitC c s) [c]=s
  | [] => by simp [splitC,Lib.join_one]
  | b::s => by
    have ih:=join_split c s
    have h0:=splitC_ne c s
    obtain ⟨w,ws,e⟩:∃ w ws,splitC c s=w::ws:=by cases h:splitC c s with | nil => exact absurd h h0 | cons w ws => exact ⟨w,ws,rfl⟩
    rw [e,Lib.join_cons] at ih
    by_cases h:b=c
    · subst h
      rw [splitC,if_pos rfl,e,Lib.join_cons,tail_one,List.nil_append,List.append_assoc,ih]; rfl
    · rw [splitC,if_neg h,e,List.headD_cons,List.tail_cons,Lib.join_cons,List.cons_append,ih]
theorem split_free (c:UInt8):∀ w:Str,c∉w→splitC c w=[w]
  | [],_ => rfl
  | b::w,h => by
    rw [List.mem_cons,not_or] at h
    rw [splitC,if_neg (Ne.symm h.1),split_free c w h.2]; rfl
theorem split_word (c:UInt8) (s:Str):∀ w:Str,c∉w→splitC c (w++c::s)=w::splitC c s
  | [],_ => by simp [splitC]
  | b::w,h => by
    rw [List.mem_cons,not_or] at h
    rw [List.cons_append,splitC,if_neg (Ne.symm h.1),split_word c s w h.2]; rfl
theorem split_join (c:UInt8):∀ ws:List Str,ws≠[]→(∀ w∈ws,c∉w)→splitC c (Lib.join ws [c])=ws
  | [],h,_ => absurd rfl h
  | [w],_,h => by rw [Lib.join_one]; exact split_free c w (h w (by simp))
  | w::v::ws,_,h => by
    have ih:=split_join c (v::ws) (by simp) (fun x hx => h x (by simp [hx]))
    rw [Lib.join_cons] at ih
    rw [Lib.join_cons,tail_one,List.append_assoc,List.singleton_append,split_word c _ w (h w (by simp)),ih]
theorem cut_word (c:UInt8) (s:Str):∀ w:Str,c∉w→cutC c (w++c::s)=(w,s,true)
  | [],_ => by simp [cutC]
  | b::w,h => by
    rw [List.mem_cons,not_or] at h
    rw [List.cons_append,cutC,if_neg (Ne.symm h.1),cut_word c s w h.2]
theorem cut_back (c:UInt8) (s:Str) (h:(cutC c s).2.2=true):s=(cutC c s).1++c::(cutC c s).2.1∧c∉(cutC c s).1:=by
  induction s with
  | nil => simp [cutC] at h
  | cons b s ih =>
    by_cases e:b=c
    · subst e; simp [cutC]
    · simp only [cutC,if_neg e] at h ⊢
      obtain ⟨h1,h2⟩:=ih h
      refine ⟨by rw [List.cons_append,← h1], ?_⟩
      rw [List.mem_cons,not_or]; exact ⟨Ne.symm e,h2⟩
theorem cut_none (c:UInt8) (s:Str) (h:(cutC c s).2.2=false):(cutC c s).1=s∧(cutC c s).2.1=[]:=by
  rcases index_c c s with ⟨h1,h2,h3,h4⟩ | ⟨i,h1,h2,h3,h4,h5⟩
  · exact ⟨h3,h4⟩
  · rw [h3] at h; cases h
def numS (s:Str):Int:=match Lib.atoiAll s with
  | .ok v => if v < 0∨Lib.itoa v≠s then -1 else v
  | _ => -1
def digB (b:UInt8):Bool:=decide (48≤b.toNat∧b.toNat≤57)
def valS (s:Str):Int:=s.foldl (fun n b => 10*n+((b.toNat:Int) - 48)) 0
def refN (s:Str):Int:=if (1≤s.length∧s.length≤13)∧s.all digB=true then (if Lib.itoa (valS s)=s then valS s else -1) else -1
theorem numS_back {s:Str} (h:0≤numS s):Lib.itoa (numS s)=s:=by
  unfold numS at h ⊢
  split at h
  · rename_i v hv
    split at h
    · omega
    · rename_i hn
      rw [if_neg hn]
      rcases Classical.em (Lib.itoa v=s) with h | h
      · exact h
      · exact absurd (.inr h) hn
  · omega
theorem refN_back {s:Str} (h:0≤refN s):Lib.itoa (refN s)=s:=by
  unfold refN at h ⊢
  split at h
  · split at h
    · rename_i h1 h2; rw [if_pos h1,if_pos h2]; exact h2
    · omega
  · omega
theorem dig_ok {u:Nat} (h:u < 10):(UInt8.ofNat (48+u)).toNat=48+u:=by simp [UInt8.toNat_ofNat']; omega
theorem parse_snoc (c:UInt8) (d:Nat) (hc:c.toNat=48+d) (hd:d < 10):∀ (l:Str) (acc u:Nat),Lib.parseUint10 acc l=.ok u→u*10+d < 18446744073709551616→Lib.parseUint10 acc (l++[c])=.ok (u*10+d)
  | [],acc,u,h,hu => by
    simp only [Lib.parseUint10] at h; injection h with h; subst h
    simp only [List.nil_append,Lib.parseUint10]
    rw [if_pos (by omega),if_neg (by omega),hc,if_neg (by omega)]
    simp
  | b::l,acc,u,h,hu => by
    simp only [List.cons_append,Lib.parseUint10] at h ⊢
    split at h
    · rename_i h1
      rw [if_pos h1]
      split at h
      · cases h
      · rename_i h2
        rw [if_neg h2]
        split at h
        · cases h
        · rename_i h3
          rw [if_neg h3]
          exact parse_snoc c d hc hd l _ u h hu
    · cases h
theorem parse_dec:∀ (f u:Nat),u≤f→u < 18446744073709551616→Lib.parseUint10 0 (Lib.decDigits u)=.ok u
  | 0,u,h,_ => by
    have:u=0:=by omega
    subst this
    rw [Lib.decDigits]; simp [Lib.parseUint10]
  | f+1,u,h,hu => by
    rw [Lib.decDigits]
    split
    · rename_i h1
      have:=dig_ok h1
      simp only [Lib.parseUint10]
      rw [if_pos (by omega),if_neg (by omega),this,if_neg (by omega)]
      simp
    · have ih:=parse_dec f (u / 10) (by omega) (by omega)
      have:=parse_snoc _ (u % 10) (dig_ok (by omega)) (by omega) _ _ _ ih (by omega)
      rw [this]; congr 1; omega
theorem dec_all:∀ (f u:Nat),u≤f→∀ b∈Lib.decDigits u,48≤b.toNat∧b.toNat≤57
  | 0,u,h,b,hb => by
    have:u=0:=by omega
    subst this
    rw [Lib.decDigits] at hb; simp at hb; subst hb; decide
  | f+1,u,h,b,hb => by
    rw [Lib.decDigits] at hb
    split at hb
    · rename_i h1
      simp only [List.mem_singleton] at hb; subst hb
      have:=dig_ok h1; omega
    · rcases List.mem_append.1 hb with hb | hb
      · exact dec_all f (u / 10) (by omega) b hb
      · simp only [List.mem_singleton] at hb; subst hb
        have:=dig_ok (u:=u % 10) (by omega); omega
theorem itoa_nat (v:Nat):Lib.itoa (v:Int)=Lib.decDigits v:=by
  unfold Lib.itoa; rw [if_neg (by omega)]; rfl
theorem numS_of (v:Nat) (h:v≤9223372036854775807):numS (Lib.itoa (v:Int))=v:=by
  have h1:=parse_dec v v (Nat.le_refl _) (by omega)
  have h2:=dec_all v v (Nat.le_refl _)
  have h3:=digits_pos v
  have ha:Lib.atoiAll (Lib.decDigits v)=.ok (v:Int):=by
    cases hd:Lib.decDigits v with
    | nil => rw [hd] at h3; simp at h3
    | cons c r =>
      rw [hd] at h1 h2
      have hc:=h2 c (by simp)
      simp only [Lib.atoiAll]
      rw [if_neg (by omega),Lib.parseMag,if_neg (by simp),h1]
      simp only
      rw [if_neg (by omega),if_neg (by omega),if_neg (by omega)]
  unfold numS
  rw [itoa_nat,ha]
  simp only
  rw [if_neg (by rw [itoa_nat]; simp)]
theorem val_snoc (l:Str) (c:UInt8):valS (l++[c])=10*valS l+((c.toNat:Int) - 48):=by simp [valS]
theorem val_dec:∀ (f u:Nat),u≤f→valS (Lib.decDigits u)=u
  | 0,u,h => by
    have:u=0:=by omega
    subst this
    rw [Lib.decDigits]; simp [valS]
  | f+1,u,h => by
    rw [Lib.decDigits]
    split
    · rename_i h1
      have:=dig_ok h1
      simp only [valS,List.foldl_cons,List.foldl_nil]; omega
    · have ih:=val_dec f (u / 10) (by omega)
      have:=dig_ok (u:=u % 10) (by omega)
      rw [val_snoc,ih]; omega
theorem refN_of (v:Nat) (h:v < 10000000000000):refN (Lib.itoa (v:Int))=v:=by
  have h2:=dec_all v v (Nat.le_refl _)
  have h3:=digits_pos v
  have h4 := digits_len 12 v (by have : (10 : Nat) ^ (12 + 1) = 10000000000000 := by decide
                                 omega)
  have h5:=val_dec v v (Nat.le_refl _)
  unfold refN
  rw [itoa_nat,if_pos ⟨by omega,by rw [List.all_eq_true]; intro b hb; simp only [digB,decide_eq_true_eq]; exact h2 b hb⟩,h5,if_pos (itoa_nat v)]
theorem itoa_no {v:Int} {c:UInt8} (hc:c=32∨c=44):c∉Lib.itoa v:=by
  unfold Lib.itoa
  split
  · intro h
    rcases List.mem_cons.1 h with h | h
    · rcases hc with rfl | rfl<;>simp at h
    · have:=dec_all _ _ (Nat.le_refl _) c h
      rcases hc with rfl | rfl<;>simp at this
  · intro h
    have:=dec_all _ _ (Nat.le_refl _) c h
    rcases hc with rfl | rfl<;>simp at this
def c47:C :=
  (.seq
 (.reg false [p (.mov (.k (.int .i64 0)))] [(0,.v 0),(1,.v 1)])
 (.seq
 (.seq
 (.reg false [p (.mov (.v 0)),
 p (.len false (.r 0)),
 p (.mov (.k (.int .i64 0)))] [(0,.v 0),(1,.v 1),(7,.r 1),(8,.r 0)])
 (.block 0
 (.loop
 (.seq
 (.reg false [p (.bin .lss (.v 8) (.v 7))] [(0,.v 0),(1,.v 1),(7,.v 7),(8,.v 8),(9,.r 0)])
 (.seq
 (.cond (.v 9)
 .skip
 (.exit 0))
 (.seq
 (.block 1
 (.seq
 (.reg false [p (.mov (.v 8)),
 p (.mov (.r 0))] [(0,.v 0),(1,.v 1),(5,.r 0),(7,.v 7),(8,.v 8)])
 (.seq
 (.reg false [p (.mov (.v 1)),
 p (.mov (.v 0)),
 p (.mov (.v 5)),
 p (.iad 11 (.r 1) (.r 0)),
 p (.load (some 11) (.r 0)),
 p (.call false (.r 4) [.r 0])] [(0,.v 0),(1,.v 1),(5,.v 5),(7,.v 7),(8,.v 8),(16,.r 0)])
 (.cond (.v 16)
 (.seq
 (.reg false [p (.mov (.v 5)),
 p (.mov (.r 0))] [(4,.r 0)])
 .ret)
 .skip))))
 (.reg false [p (.bin .add (.v 8) (.k (.int .i64 1))),
 p (.mov (.r 0))] [(0,.v 0),(1,.v 1),(7,.v 7),(8,.r 0)])))))))
 (.frz
 (.seq
 (.reg false [p (.mov (.k (.int .i64 (-1))))] [(4,.r 0)])
 .ret))))
def r47:List RV:=[.t 4]
theorem chk47:Chk Tryz.prog Tryz.f47 c47 r47:=⟨_,rfl,by kernel_rfl,by kernel_rfl⟩
theorem ena47:EnA Tryz.prog 47 19 c47 r47:=mkEnA (by kernel_rfl) Tryz.func47 (by kernel_rfl) chk47
def c30:C :=
  (.seq
 (.reg false [p (.mov (.k (.bool false)))] [(0,.v 0),(1,.v 1)])
 (.seq
 (.reg false [p (.mov (.v 0)),
 p (.mov (.v 1)),
 p (.call false (.k (.fn 47 [] [])) [.r 1,.r 0]),
 p (.bin .geq (.r 0) (.k (.int .i64 0))),
 p (.mov (.r 0))] [(4,.r 0)])
 .ret))
def r30:List RV:=[.t 4]
theorem chk30:Chk Tryz.prog Tryz.f30 c30 r30:=⟨_,rfl,by kernel_rfl,by kernel_rfl⟩
theorem ena30:EnA Tryz.prog 30 9 c30 r30:=mkEnA (by kernel_rfl) Tryz.func30 (by kernel_rfl) chk30
def c48:C :=
  (.seq
 (.reg false [p (.box 8 (.v 0)),
 p (.mov (.k (.bool false)))] [(1,.r 1)])
 (.seq
 (.reg false [p (.fad 0 (.v 1)),
 p (.load (none) (.r 0)),
 p (.bin .eql (.r 0) (.k (.int .i64 0))),
 p (.mov (.r 0)),
 ⟨.fad 1 (.v 1),some (0,true),[]⟩,
 ⟨.load (none) (.r 0),some (1,true),[]⟩,
 ⟨.bin .eql (.r 0) (.k (.str [])),some (2,true),[]⟩,
 p (.pick (.r 3) (.r 0) (.k (.bool false))),
 p (.mov (.r 0)),
 ⟨.fad 2 (.v 1),some (0,true),[]⟩,
 ⟨.load (none) (.r 0),some (1,true),[]⟩,
 ⟨.bin .eql (.r 0) (.k (.str [])),some (2,true),[]⟩,
 p (.pick (.r 3) (.r 0) (.k (.bool false))),
 p (.mov (.r 0)),
 ⟨.fad 3 (.v 1),some (0,true),[]⟩,
 ⟨.load (none) (.r 0),some (1,true),[]⟩,
 ⟨.bin .eql (.r 0) (.k (.int .i64 0)),some (2,true),[]⟩,
 p (.pick (.r 3) (.r 0) (.k (.bool false))),
 p (.mov (.r 0)),
 ⟨.fad 4 (.v 1),some (0,true),[]⟩,
 ⟨.load (none) (.r 0),some (1,true),[]⟩,
 ⟨.bin .eql (.r 0) (.k (.int .i64 0)),some (2,true),[]⟩,
 p (.pick (.r 3) (.r 0) (.k (.bool false))),
 p (.mov (.r 0)),
 ⟨.fad 5 (.v 1),some (0,true),[]⟩,
 ⟨.load (none) (.r 0),some (1,true),[]⟩,
 ⟨.bin .eql (.r 0) (.k (.str [])),some (2,true),[]⟩,
 p (.pick (.r 3) (.r 0) (.k (.bool false))),
 p (.mov (.r 0)),
 ⟨.fad 6 (.v 1),some (0,true),[]⟩,
 ⟨.fad 0 (.r 0),some (1,true),[]⟩,
 ⟨.load (none) (.r 0),some (2,true),[]⟩,
 ⟨.bin .eql (.r 0) (.k (.str [])),some (3,true),[]⟩,
 p (.pick (.r 4) (.r 0) (.k (.bool false))),
 p (.mov (.r 0)),
 ⟨.fad 6 (.v 1),some (0,true),[]⟩,
 ⟨.fad 1 (.r 0),some (1,true),[]⟩,
 ⟨.load (none) (.r 0),some (2,true),[]⟩,
 ⟨.len false (.r 0),some (3,true),[]⟩,
 ⟨.bin .eql (.r 0) (.k (.int .i64 0)),some (4,true),[]⟩,
 p (.pick (.r 5) (.r 0) (.k (.bool false))),
 p (.mov (.r 0))] [(2,.r 0)])
 .ret))
def r48:List RV:=[.t 2]
theorem en48:EnP Tryz.prog 48 44 c48 r48:=mkEnP (by kernel_rfl) Tryz.func48 (by kernel_rfl) ⟨_,rfl,by kernel_rfl,by kernel_rfl⟩
def c51:C :=
  (.seq
 (.reg false [p (.box 8 (.v 0)),
 p (.mov (.k (.bool false)))] [(1,.r 1)])
 (.seq
 (.seq
 (.reg false [p (.load (some 8) (.v 1)),
 p (.call true (.k (.fn 62 [] [])) [.r 0]),
 p (.mov (.r 0)),
 p (.ext (.r 0) 0),
 p (.ext (.r 1) 1),
 p (.mov (.r 1)),
 p (.mov (.r 1))] [(1,.v 1),(4,.r 0)])
 (.seq
 (.reg false [p (.mov (.v 4)),
 p (.bin .neq (.r 0) (.k (.int .i64 0))),
 p (.mov (.r 0)),
 ⟨.fad 3 (.v 1),some (0,false),[]⟩,
 ⟨.load (none) (.r 0),some (1,false),[]⟩,
 ⟨.bin .gtr (.r 0) (.k (.int .i64 1099511627776)),some (2,false),[]⟩,
 p (.pick (.r 3) (.k (.bool true)) (.r 0)),
 p (.mov (.r 0)),
 ⟨.fad 4 (.v 1),some (0,false),[]⟩,
 ⟨.load (none) (.r 0),some (1,false),[]⟩,
 ⟨.bin .gtr (.r 0) (.k (.int .i64 1099511627776)),some (2,false),[]⟩,
 p (.pick (.r 3) (.k (.bool true)) (.r 0))] [(1,.v 1),(21,.r 0)])
 (.cond (.v 21)
 (.seq
 (.reg false [p (.mov (.k (.bool false)))] [(2,.r 0)])
 .ret)
 .skip)))
 (.seq
 (.seq
 (.reg false [p (.fad 0 (.v 1)),
 p (.load (none) (.r 0))] [(1,.v 1),(23,.r 0)])
 (.block 0
 (.seq
 (.reg false [p (.bin .eql (.v 23) (.k (.int .i64 1))),
 p (.mov (.r 0))] [(1,.v 1),(23,.v 23),(24,.r 0)])
 (.cond (.v 24)
 (.seq
 (.reg false [p (.fad 6 (.v 1)),
 p (.load (some 2) (.r 0)),
 p (.call true (.k (.fn 63 [] [])) [.r 0]),
 p (.bin .eql (.r 0) (.k (.int .i64 0))),
 p (.mov (.r 0)),
 ⟨.fad 6 (.v 1),some (0,true),[]⟩,
 ⟨.fad 0 (.r 0),some (1,true),[]⟩,
 ⟨.load (none) (.r 0),some (2,true),[]⟩,
 ⟨.call true (.k (.fn 64 [] [])) [.r 0],some (3,true),[]⟩,
 p (.pick (.r 4) (.r 0) (.k (.bool false))),
 p (.mov (.r 0))] [(2,.r 0)])
 .ret)
 (.seq
 (.reg false [p (.bin .eql (.v 23) (.k (.int .i64 2))),
 p (.mov (.r 0))] [(1,.v 1),(23,.v 23),(36,.r 0)])
 (.cond (.v 36)
 (.seq
 (.reg false [p (.fad 1 (.v 1)),
 p (.load (none) (.r 0)),
 p (.call true (.k (.fn 64 [] [])) [.r 0]),
 p (.mov (.r 0)),
 ⟨.fad 2 (.v 1),some (0,true),[]⟩,
 ⟨.load (none) (.r 0),some (1,true),[]⟩,
 ⟨.call true (.k (.fn 64 [] [])) [.r 0],some (2,true),[]⟩,
 p (.pick (.r 3) (.r 0) (.k (.bool false))),
 p (.mov (.r 0))] [(2,.r 0)])
 .ret)
 (.seq
 (.reg false [p (.bin .eql (.v 23) (.k (.int .i64 5))),
 p (.mov (.r 0))] [(1,.v 1),(23,.v 23),(46,.r 0)])
 (.cond (.v 46)
 (.seq
 (.reg false [p (.fad 5 (.v 1)),
 p (.load (none) (.r 0)),
 p (.bin .eql (.r 0) (.k (.str []))),
 p (.mov (.r 0)),
 ⟨.fad 5 (.v 1),some (0,false),[]⟩,
 ⟨.load (none) (.r 0),some (1,false),[]⟩,
 ⟨.call true (.k (.fn 64 [] [])) [.r 0],some (2,false),[]⟩,
 p (.pick (.r 3) (.k (.bool true)) (.r 0)),
 p (.mov (.r 0))] [(2,.r 0)])
 .ret)
 (.seq
 (.seq
 (.reg false [p (.bin .eql (.v 23) (.k (.int .i64 7))),
 p (.mov (.r 0))] [(1,.v 1),(23,.v 23),(56,.r 0)])
 (.cond (.v 56)
 .skip
 (.reg false [p (.bin .eql (.v 23) (.k (.int .i64 9))),
 p (.mov (.r 0))] [(1,.v 1),(56,.r 0)])))
 (.cond (.v 56)
 (.seq
 (.reg false [p (.fad 1 (.v 1)),
 p (.load (none) (.r 0)),
 p (.call true (.k (.fn 64 [] [])) [.r 0]),
 p (.mov (.r 0))] [(2,.r 0)])
 .ret)
 .skip))))))))))
 (.seq
 (.reg false [p (.mov (.k (.bool true)))] [(2,.r 0)])
 .ret))))
def r51:List RV:=[.t 2]
theorem en51:EnP Tryz.prog 51 62 c51 r51:=mkEnP (by kernel_rfl) Tryz.func51 (by kernel_rfl) ⟨_,rfl,by kernel_rfl,by kernel_rfl⟩
def c50:C :=
  (.seq
 (.reg false [p (.mov (.k (.bool false)))] [(0,.v 0)])
 (.seq
 (.reg false [p (.mov (.v 0)),
 p (.bin .lss (.r 0) (.k (.int .i64 0))),
 p (.mov (.r 0)),
 ⟨.mov (.v 0),some (0,false),[]⟩,
 ⟨.bin .gtr (.r 0) (.k (.int .i64 255)),some (1,false),[]⟩,
 p (.pick (.r 2) (.k (.bool true)) (.r 0)),
 p (.mov (.r 0))] [(2,.r 0)])
 .ret))
def r50:List RV:=[.t 2]
theorem chk50:Chk Tryz.prog Tryz.f50 c50 r50:=⟨_,rfl,by kernel_rfl,by kernel_rfl⟩
theorem ena50:EnA Tryz.prog 50 9 c50 r50:=mkEnA (by kernel_rfl) Tryz.func50 (by kernel_rfl) chk50
def c32:C :=
  (.seq
 (.reg false [p (.box 11 (.v 0)),
 p (.mov (.k (.bool false)))] [(1,.r 1)])
 (.seq
 (.block 0
 (.seq
 (.reg false [p (.fad 9 (.v 1)),
 p (.load (none) (.r 0)),
 p (.mov (.r 0))] [(1,.v 1),(3,.r 0)])
 (.cond (.v 3)
 (.seq
 (.reg false [p (.fad 8 (.v 1)),
 p (.load (none) (.r 0)),
 p (.un .not (.r 0)),
 p (.mov (.r 0)),
 ⟨.fad 0 (.v 1),some (0,true),[]⟩,
 ⟨.load (some 8) (.r 0),some (1,true),[]⟩,
 ⟨.call true (.k (.fn 48 [] [])) [.r 0],some (2,true),[]⟩,
 p (.pick (.r 3) (.r 0) (.k (.bool false))),
 p (.mov (.r 0)),
 ⟨.fad 10 (.v 1),some (0,true),[]⟩,
 ⟨.load (none) (.r 0),some (1,true),[]⟩,
 ⟨.len false (.r 0),some (2,true),[]⟩,
 ⟨.bin .leq (.r 0) (.k (.int .i64 64)),some (3,true),[]⟩,
 p (.pick (.r 4) (.r 0) (.k (.bool false))),
 p (.mov (.r 0)),
 ⟨.fad 10 (.v 1),some (0,true),[]⟩,
 ⟨.load (none) (.r 0),some (1,true),[]⟩,
 ⟨.call false (.k (.fn 49 [] [])) [.r 0,.k (.fn 50 [] [])],some (2,true),[]⟩,
 ⟨.un .not (.r 0),some (3,true),[]⟩,
 p (.pick (.r 4) (.r 0) (.k (.bool false))),
 p (.mov (.r 0))] [(2,.r 0)])
 .ret)
 (.seq
 (.reg false [p (.fad 8 (.v 1)),
 p (.load (none) (.r 0)),
 p (.mov (.r 0))] [(1,.v 1),(26,.r 0)])
 (.cond (.v 26)
 (.seq
 (.reg false [p (.fad 0 (.v 1)),
 p (.load (some 8) (.r 0)),
 p (.call true (.k (.fn 48 [] [])) [.r 0]),
 p (.mov (.r 0)),
 ⟨.fad 10 (.v 1),some (0,true),[]⟩,
 ⟨.load (none) (.r 0),some (1,true),[]⟩,
 ⟨.len false (.r 0),some (2,true),[]⟩,
 ⟨.bin .eql (.r 0) (.k (.int .i64 0)),some (3,true),[]⟩,
 p (.pick (.r 4) (.r 0) (.k (.bool false))),
 p (.mov (.r 0))] [(2,.r 0)])
 .ret)
 .skip)))))
 (.seq
 (.reg false [p (.fad 0 (.v 1)),
 p (.load (some 8) (.r 0)),
 p (.call true (.k (.fn 51 [] [])) [.r 0]),
 p (.mov (.r 0)),
 ⟨.fad 10 (.v 1),some (0,true),[]⟩,
 ⟨.load (none) (.r 0),some (1,true),[]⟩,
 ⟨.len false (.r 0),some (2,true),[]⟩,
 ⟨.bin .eql (.r 0) (.k (.int .i64 0)),some (3,true),[]⟩,
 p (.pick (.r 4) (.r 0) (.k (.bool false))),
 p (.mov (.r 0))] [(2,.r 0)])
 .ret)))
def r32:List RV:=[.t 2]
theorem en32:EnP Tryz.prog 32 47 c32 r32:=mkEnP (by kernel_rfl) Tryz.func32 (by kernel_rfl) ⟨_,rfl,by kernel_rfl,by kernel_rfl⟩
def c31:C :=
  (.seq
 (.reg false [p (.box 11 (.v 0)),
 p (.mov (.k (.bool false)))] [(1,.r 1)])
 (.seq
 (.reg false [p (.load (some 11) (.v 1)),
 p (.call true (.k (.fn 32 [] [])) [.r 0]),
 p (.un .not (.r 0)),
 p (.mov (.r 0))] [(2,.r 0)])
 .ret))
def r31:List RV:=[.t 2]
theorem chk31:Chk Tryz.prog Tryz.f31 c31 r31:=⟨_,rfl,by kernel_rfl,by kernel_rfl⟩
theorem ena31:EnA Tryz.prog 31 6 c31 r31:=mkEnA (by kernel_rfl) Tryz.func31 (by kernel_rfl) chk31
def c10:C :=
  (.seq
 (.reg false [p (.box 2 (.v 0)),
 p (.mov (.k (.bool false)))] [(1,.r 1)])
 (.seq
 (.reg false [p (.fad 0 (.v 1)),
 p (.load (none) (.r 0)),
 p (.bin .geq (.r 0) (.k (.int .i64 24))),
 p (.mov (.r 0)),
 ⟨.fad 0 (.v 1),some (0,true),[]⟩,
 ⟨.load (none) (.r 0),some (1,true),[]⟩,
 ⟨.bin .leq (.r 0) (.k (.int .i64 200)),some (2,true),[]⟩,
 p (.pick (.r 3) (.r 0) (.k (.bool false))),
 p (.mov (.r 0)),
 ⟨.fad 1 (.v 1),some (0,true),[]⟩,
 ⟨.load (none) (.r 0),some (1,true),[]⟩,
 ⟨.len false (.r 0),some (2,true),[]⟩,
 ⟨.bin .leq (.r 0) (.k (.int .i64 200)),some (3,true),[]⟩,
 p (.pick (.r 4) (.r 0) (.k (.bool false))),
 p (.mov (.r 0)),
 ⟨.fad 1 (.v 1),some (0,true),[]⟩,
 ⟨.load (none) (.r 0),some (1,true),[]⟩,
 ⟨.call false (.k (.fn 30 [] [])) [.r 0,.k (.fn 31 [] [])],some (2,true),[]⟩,
 ⟨.un .not (.r 0),some (3,true),[]⟩,
 p (.pick (.r 4) (.r 0) (.k (.bool false))),
 p (.mov (.r 0))] [(2,.r 0)])
 .ret))
def r10:List RV:=[.t 2]
theorem en10:EnP Tryz.prog 10 23 c10 r10:=mkEnP (by kernel_rfl) Tryz.func10 (by kernel_rfl) ⟨_,rfl,by kernel_rfl,by kernel_rfl⟩
def c26:C :=
  (.seq
 (.reg false [p (.mov (.k (.str [])))] [(0,.v 0)])
 (.seq
 (.reg false [p (.mov (.v 0)),
 p (.call true (.k (.fn 44 [] [])) [.r 0,.k (.str [32])]),
 p (.bin .add (.r 0) (.k (.str [10]))),
 p (.mov (.r 0))] [(2,.r 0)])
 .ret))
def r26:List RV:=[.t 2]
theorem en26:EnP Tryz.prog 26 6 c26 r26:=mkEnP (by kernel_rfl) Tryz.func26 (by kernel_rfl) ⟨_,rfl,by kernel_rfl,by kernel_rfl⟩
def c46:C :=
  (.seq
 (.reg false [p (.mov (.k (.fsl .nil 1 [])))] [(0,.v 0)])
 (.seq
 (.reg false [p (.mov (.k (.fsl .nil 1 [])))] [(0,.v 0),(3,.r 0)])
 (.seq
 (.seq
 (.reg false [p (.mov (.v 0)),
 p (.len false (.r 0)),
 p (.mov (.k (.int .i64 0)))] [(3,.v 3),(6,.r 2),(7,.r 1),(8,.r 0)])
 (.block 0
 (.loop
 (.seq
 (.reg false [p (.bin .lss (.v 8) (.v 7))] [(3,.v 3),(6,.v 6),(7,.v 7),(8,.v 8),(9,.r 0)])
 (.seq
 (.cond (.v 9)
 .skip
 (.exit 0))
 (.seq
 (.block 1
 (.seq
 (.reg false [p (.iad 1 (.v 6) (.v 8)),
 p (.load (none) (.r 0)),
 p (.mov (.r 0))] [(3,.v 3),(5,.r 0),(6,.v 6),(7,.v 7),(8,.v 8)])
 (.reg false [p (.mov (.v 3)),
 p (.mov (.v 5)),
 p (.call true (.k (.fn 27 [] [])) [.r 0]),
 p (.bsl 1 [.r 0]),
 p (.app 1 16 (.r 3) (.r 0)),
 p (.mov (.r 0))] [(3,.r 0),(6,.v 6),(7,.v 7),(8,.v 8)])))
 (.reg false [p (.bin .add (.v 8) (.k (.int .i64 1))),
 p (.mov (.r 0))] [(3,.v 3),(6,.v 6),(7,.v 7),(8,.r 0)])))))))
 (.frz
 (.seq
 (.reg false [p (.mov (.v 3)),
 p (.mov (.r 0))] [(2,.r 0)])
 .ret)))))
def r46:List RV:=[.t 2]
theorem en46:EnP Tryz.prog 46 19 c46 r46:=mkEnP (by kernel_rfl) Tryz.func46 (by kernel_rfl) ⟨_,rfl,by kernel_rfl,by kernel_rfl⟩
def c28:C :=
  (.seq
 (.reg false [p (.box 11 (.v 0)),
 p (.mov (.k (.str [])))] [(1,.r 1)])
 (.seq
 (.reg false [p (.fad 0 (.v 1)),
 p (.load (some 8) (.r 0)),
 p (.alloc 8 (.agg [.int .i64 0,.str [],.str [],.int .i64 0,.int .i64 0,.str [],.str [],.fsl .nil 4 []])),
 p (.store (some 8) (.r 0) (.r 1))] [(1,.v 1),(3,.r 1)])
 (.seq
 (.block 0
 (.seq
 (.reg false [p (.fad 9 (.v 1)),
 p (.load (none) (.r 0)),
 p (.mov (.r 0))] [(1,.v 1),(3,.v 3),(9,.r 0)])
 (.cond (.v 9)
 (.seq
 (.reg false [p (.bsl 1 [.k (.str [99,114,97,115,104])]),
 p (.fad 10 (.v 1)),
 p (.load (none) (.r 0)),
 p (.call false (.k (.fn 46 [] [])) [.r 0]),
 p (.app 1 16 (.r 3) (.r 0)),
 p (.call false (.k (.fn 26 [] [])) [.r 0]),
 p (.mov (.r 0))] [(2,.r 0)])
 .ret)
 (.seq
 (.reg false [p (.fad 8 (.v 1)),
 p (.load (none) (.r 0)),
 p (.mov (.r 0))] [(3,.v 3),(18,.r 0)])
 (.cond (.v 18)
 (.seq
 (.reg false [p (.bsl 1 [.k (.str [99,104,101,99,107])]),
 p (.call false (.k (.fn 26 [] [])) [.r 0]),
 p (.mov (.r 0))] [(2,.r 0)])
 .ret)
 .skip)))))
 (.seq
 (.seq
 (.reg false [p (.fad 0 (.v 3)),
 p (.load (none) (.r 0))] [(3,.v 3),(24,.r 0)])
 (.block 1
 (.seq
 (.reg false [p (.bin .eql (.v 24) (.k (.int .i64 1))),
 p (.mov (.r 0))] [(3,.v 3),(24,.v 24),(25,.r 0)])
 (.cond (.v 25)
 (.seq
 (.reg false [p (.fad 6 (.v 3)),
 p (.fad 0 (.r 0)),
 p (.load (none) (.r 0)),
 p (.bsl 1 [.k (.str [103,114,97,112,104]),.r 0]),
 p (.mov (.r 0))] [(3,.v 3),(4,.r 0)])
 (.seq
 (.seq
 (.reg false [p (.fad 6 (.v 3)),
 p (.fad 1 (.r 0)),
 p (.load (none) (.r 0)),
 p (.len false (.r 0)),
 p (.mov (.k (.int .i64 0)))] [(4,.v 4),(33,.r 2),(34,.r 1),(35,.r 0)])
 (.block 2
 (.loop
 (.seq
 (.reg false [p (.bin .lss (.v 35) (.v 34))] [(4,.v 4),(33,.v 33),(34,.v 34),(35,.v 35),(36,.r 0)])
 (.seq
 (.cond (.v 36)
 .skip
 (.exit 2))
 (.seq
 (.block 3
 (.seq
 (.reg false [p (.iad 4 (.v 33) (.v 35)),
 p (.load (some 4) (.r 0)),
 p (.alloc 4 (.agg [.fsl .nil 1 [],.int .i64 0,.int .i64 0,.int .i64 0])),
 p (.store (some 4) (.r 0) (.r 1))] [(4,.v 4),(6,.r 1),(33,.v 33),(34,.v 34),(35,.v 35)])
 (.reg false [p (.mov (.v 4)),
 p (.fad 1 (.v 6)),
 p (.load (none) (.r 0)),
 p (.fad 2 (.v 6)),
 p (.load (none) (.r 0)),
 p (.fad 3 (.v 6)),
 p (.load (none) (.r 0)),
 p (.bsl 1 [.r 4,.r 2,.r 0]),
 p (.fad 0 (.v 6)),
 p (.load (none) (.r 0)),
 p (.app 1 8 (.r 2) (.r 0)),
 p (.call false (.k (.fn 46 [] [])) [.r 0]),
 p (.call true (.k (.fn 44 [] [])) [.r 0,.k (.str [44])]),
 p (.bsl 1 [.r 0]),
 p (.app 1 16 (.r 13) (.r 0)),
 p (.mov (.r 0))] [(4,.r 0),(33,.v 33),(34,.v 34),(35,.v 35)])))
 (.reg false [p (.bin .add (.v 35) (.k (.int .i64 1))),
 p (.mov (.r 0))] [(4,.v 4),(33,.v 33),(34,.v 34),(35,.r 0)])))))))
 (.frz
 (.seq
 (.reg false [p (.mov (.v 4)),
 p (.call false (.k (.fn 26 [] [])) [.r 0]),
 p (.mov (.r 0))] [(2,.r 0)])
 .ret))))
 (.seq
 (.reg false [p (.bin .eql (.v 24) (.k (.int .i64 2))),
 p (.mov (.r 0))] [(3,.v 3),(24,.v 24),(57,.r 0)])
 (.cond (.v 57)
 (.seq
 (.reg false [p (.fad 1 (.v 3)),
 p (.load (none) (.r 0)),
 p (.fad 2 (.v 3)),
 p (.load (none) (.r 0)),
 p (.bsl 1 [.k (.str [115,116,97,114,116]),.r 2,.r 0]),
 p (.call false (.k (.fn 26 [] [])) [.r 0]),
 p (.mov (.r 0))] [(2,.r 0)])
 .ret)
 (.seq
 (.reg false [p (.bin .eql (.v 24) (.k (.int .i64 3))),
 p (.mov (.r 0))] [(3,.v 3),(24,.v 24),(65,.r 0)])
 (.cond (.v 65)
 (.seq
 (.reg false [p (.bsl 1 [.k (.str [112,111,108,108])]),
 p (.call false (.k (.fn 26 [] [])) [.r 0]),
 p (.mov (.r 0))] [(2,.r 0)])
 .ret)
 (.seq
 (.reg false [p (.bin .eql (.v 24) (.k (.int .i64 4))),
 p (.mov (.r 0))] [(3,.v 3),(24,.v 24),(69,.r 0)])
 (.cond (.v 69)
 (.seq
 (.reg false [p (.fad 3 (.v 3)),
 p (.load (none) (.r 0)),
 p (.call true (.k (.fn 27 [] [])) [.r 0]),
 p (.bsl 1 [.k (.str [98,101,97,116]),.r 0]),
 p (.call false (.k (.fn 26 [] [])) [.r 0]),
 p (.mov (.r 0))] [(2,.r 0)])
 .ret)
 (.seq
 (.reg false [p (.bin .eql (.v 24) (.k (.int .i64 5))),
 p (.mov (.r 0))] [(3,.v 3),(24,.v 24),(76,.r 0)])
 (.cond (.v 76)
 (.seq
 (.seq
 (.reg false [p (.fad 5 (.v 3)),
 p (.load (none) (.r 0)),
 p (.bin .eql (.r 0) (.k (.str [])))] [(3,.v 3),(80,.r 0)])
 (.cond (.v 80)
 (.seq
 (.reg false [p (.fad 3 (.v 3)),
 p (.load (none) (.r 0)),
 p (.call true (.k (.fn 27 [] [])) [.r 0]),
 p (.bsl 1 [.k (.str [100,111,110,101]),.r 0]),
 p (.call false (.k (.fn 26 [] [])) [.r 0]),
 p (.mov (.r 0))] [(2,.r 0)])
 .ret)
 .skip))
 (.seq
 (.reg true [p (.fad 3 (.v 3)),
 p (.load (none) (.r 0)),
 p (.call true (.k (.fn 27 [] [])) [.r 0]),
 p (.fad 5 (.v 3)),
 p (.load (none) (.r 0)),
 p (.bsl 1 [.k (.str [100,111,110,101]),.r 2,.r 0]),
 p (.call false (.k (.fn 26 [] [])) [.r 0]),
 p (.mov (.r 0))] [(2,.r 0)])
 .ret))
 (.seq
 (.reg false [p (.bin .eql (.v 24) (.k (.int .i64 6))),
 p (.mov (.r 0))] [(3,.v 3),(24,.v 24),(93,.r 0)])
 (.cond (.v 93)
 (.seq
 (.reg false [p (.fad 3 (.v 3)),
 p (.load (none) (.r 0)),
 p (.call true (.k (.fn 27 [] [])) [.r 0]),
 p (.bsl 1 [.k (.str [102,97,105,108]),.r 0]),
 p (.call false (.k (.fn 26 [] [])) [.r 0]),
 p (.mov (.r 0))] [(2,.r 0)])
 .ret)
 (.seq
 (.reg false [p (.bin .eql (.v 24) (.k (.int .i64 7))),
 p (.mov (.r 0))] [(3,.v 3),(24,.v 24),(100,.r 0)])
 (.cond (.v 100)
 (.seq
 (.reg false [p (.fad 1 (.v 3)),
 p (.load (none) (.r 0)),
 p (.bsl 1 [.k (.str [99,97,110,99,101,108]),.r 0]),
 p (.call false (.k (.fn 26 [] [])) [.r 0]),
 p (.mov (.r 0))] [(2,.r 0)])
 .ret)
 (.seq
 (.reg false [p (.bin .eql (.v 24) (.k (.int .i64 8))),
 p (.mov (.r 0))] [(3,.v 3),(24,.v 24),(106,.r 0)])
 (.cond (.v 106)
 (.seq
 (.reg false [p (.fad 4 (.v 3)),
 p (.load (none) (.r 0)),
 p (.call true (.k (.fn 27 [] [])) [.r 0]),
 p (.bsl 1 [.k (.str [116,105,99,107]),.r 0]),
 p (.call false (.k (.fn 26 [] [])) [.r 0]),
 p (.mov (.r 0))] [(2,.r 0)])
 .ret)
 (.seq
 (.reg false [p (.bin .eql (.v 24) (.k (.int .i64 9))),
 p (.mov (.r 0))] [(3,.v 3),(113,.r 0)])
 (.cond (.v 113)
 (.seq
 (.reg false [p (.fad 1 (.v 3)),
 p (.load (none) (.r 0)),
 p (.bsl 1 [.k (.str [115,116,97,116,101]),.r 0]),
 p (.call false (.k (.fn 26 [] [])) [.r 0]),
 p (.mov (.r 0))] [(2,.r 0)])
 .ret)
 .skip))))))))))))))))))))
 (.frz
 (.seq
 (.reg false [p (.bsl 1 [.k (.str [115,121,110,99])]),
 p (.call false (.k (.fn 26 [] [])) [.r 0]),
 p (.mov (.r 0))] [(2,.r 0)])
 .ret))))))
def r28:List RV:=[.t 2]
theorem en28:EnP Tryz.prog 28 121 c28 r28:=mkEnP (by kernel_rfl) Tryz.func28 (by kernel_rfl) ⟨_,rfl,by kernel_rfl,by kernel_rfl⟩
def c21:C :=
  (.seq
 (.reg false [p (.box 11 (.v 0)),
 p (.mov (.k (.bool false)))] [(1,.r 1)])
 (.seq
 (.seq
 (.reg false [p (.fad 10 (.v 1)),
 p (.load (none) (.r 0)),
 p (.len false (.r 0)),
 p (.mov (.k (.int .i64 0)))] [(1,.v 1),(6,.r 2),(7,.r 1),(8,.r 0)])
 (.block 0
 (.loop
 (.seq
 (.reg false [p (.bin .lss (.v 8) (.v 7))] [(1,.v 1),(6,.v 6),(7,.v 7),(8,.v 8),(9,.r 0)])
 (.seq
 (.cond (.v 9)
 .skip
 (.exit 0))
 (.seq
 (.block 1
 (.seq
 (.reg false [p (.iad 1 (.v 6) (.v 8)),
 p (.load (none) (.r 0)),
 p (.mov (.r 0))] [(1,.v 1),(4,.r 0),(6,.v 6),(7,.v 7),(8,.v 8)])
 (.seq
 (.reg false [p (.mov (.v 4)),
 p (.bin .lss (.r 0) (.k (.int .i64 0))),
 p (.mov (.r 0)),
 ⟨.mov (.v 4),some (0,false),[]⟩,
 ⟨.bin .gtr (.r 0) (.k (.int .i64 255)),some (1,false),[]⟩,
 p (.pick (.r 2) (.k (.bool true)) (.r 0)),
 p (.mov (.r 0)),
 ⟨.fad 9 (.v 1),some (0,false),[]⟩,
 ⟨.load (none) (.r 0),some (1,false),[]⟩,
 ⟨.un .not (.r 0),some (2,false),[]⟩,
 p (.pick (.r 3) (.k (.bool true)) (.r 0))] [(1,.v 1),(6,.v 6),(7,.v 7),(8,.v 8),(22,.r 0)])
 (.cond (.v 22)
 (.seq
 (.reg false [p (.mov (.k (.bool false)))] [(2,.r 0)])
 .ret)
 .skip))))
 (.reg false [p (.bin .add (.v 8) (.k (.int .i64 1))),
 p (.mov (.r 0))] [(1,.v 1),(6,.v 6),(7,.v 7),(8,.r 0)])))))))
 (.frz
 (.seq
 (.seq
 (.reg false [p (.fad 9 (.v 1)),
 p (.load (none) (.r 0))] [(1,.v 1),(25,.r 0)])
 (.cond (.v 25)
 (.seq
 (.reg false [p (.fad 8 (.v 1)),
 p (.load (none) (.r 0)),
 p (.un .not (.r 0)),
 p (.mov (.r 0)),
 ⟨.fad 0 (.v 1),some (0,true),[]⟩,
 ⟨.load (some 8) (.r 0),some (1,true),[]⟩,
 ⟨.call true (.k (.fn 39 [] [])) [.r 0],some (2,true),[]⟩,
 p (.pick (.r 3) (.r 0) (.k (.bool false))),
 p (.mov (.r 0)),
 ⟨.fad 10 (.v 1),some (0,true),[]⟩,
 ⟨.load (none) (.r 0),some (1,true),[]⟩,
 ⟨.len false (.r 0),some (2,true),[]⟩,
 ⟨.bin .leq (.r 0) (.k (.int .i64 64)),some (3,true),[]⟩,
 p (.pick (.r 4) (.r 0) (.k (.bool false))),
 p (.mov (.r 0))] [(2,.r 0)])
 .ret)
 .skip))
 (.seq
 (.seq
 (.reg false [p (.fad 8 (.v 1)),
 p (.load (none) (.r 0))] [(1,.v 1),(41,.r 0)])
 (.cond (.v 41)
 (.seq
 (.reg false [p (.fad 0 (.v 1)),
 p (.load (some 8) (.r 0)),
 p (.call true (.k (.fn 39 [] [])) [.r 0]),
 p (.mov (.r 0))] [(2,.r 0)])
 .ret)
 .skip))
 (.seq
 (.reg false [p (.fad 0 (.v 1)),
 p (.load (some 8) (.r 0)),
 p (.call true (.k (.fn 40 [] [])) [.r 0]),
 p (.mov (.r 0))] [(2,.r 0)])
 .ret))))))
def c7:C :=
  (.seq
 (.reg false [p (.mov (.k (.bool false)))] [])
 (.seq
 (.reg false [p (.build [.int .i64 0,.fsl .nil 11 []] [(0,1,.k (.int .i64 24))]),
 p (.call true (.k (.fn 10 [] [])) [.r 0]),
 p (.mov (.r 0))] [(0,.r 0)])
 .ret))
def r7:List RV:=[.t 0]
theorem en7:EnP Tryz.prog 7 3 c7 r7:=mkEnP (by kernel_rfl) Tryz.func7 (by kernel_rfl) ⟨_,rfl,by kernel_rfl,by kernel_rfl⟩
theorem p_none (c:Cmd):PCall Tryz.prog 48 [cmdV c] (.bool (noneC c)):=by
  refine en48 (by simp) (by simp [closedL,cmdV_closed]) ?_
  by_cases a0:c.kind=0
  case neg =>
    have e:noneC c=false:=decide_eq_false fun h => a0 h.1
    simp (maxSteps:=1000000) (disch:=omega) only [rg,gD,simprocAttr,c48,cmdV,tasksV,mv_len,a0]
    (refine fin_x rfl ?_ ?_<;>simp [pack,lo,loL,V.closed,closedL,mv_closed,e])
  by_cases a1:c.key=[]
  case neg =>
    have e:noneC c=false:=decide_eq_false fun h => a1 h.2.1
    simp (maxSteps:=1000000) (disch:=omega) only [rg,gD,simprocAttr,c48,cmdV,tasksV,mv_len,a0,a1]
    (refine fin_x rfl ?_ ?_<;>simp [pack,lo,loL,V.closed,closedL,mv_closed,e])
  by_cases a2:c.name=[]
  case neg =>
    have e:noneC c=false:=decide_eq_false fun h => a2 h.2.2.1
    simp (maxSteps:=1000000) (disch:=omega) only [rg,gD,simprocAttr,c48,cmdV,tasksV,mv_len,a0,a1,a2]
    (refine fin_x rfl ?_ ?_<;>simp [pack,lo,loL,V.closed,closedL,mv_closed,e])
  by_cases a3:c.token=0
  case neg =>
    have e:noneC c=false:=decide_eq_false fun h => a3 h.2.2.2.1
    simp (maxSteps:=1000000) (disch:=omega) only [rg,gD,simprocAttr,c48,cmdV,tasksV,mv_len,a0,a1,a2,a3]
    (refine fin_x rfl ?_ ?_<;>simp [pack,lo,loL,V.closed,closedL,mv_closed,e])
  by_cases a4:c.time=0
  case neg =>
    have e:noneC c=false:=decide_eq_false fun h => a4 h.2.2.2.2.1
    simp (maxSteps:=1000000) (disch:=omega) only [rg,gD,simprocAttr,c48,cmdV,tasksV,mv_len,a0,a1,a2,a3,a4]
    (refine fin_x rfl ?_ ?_<;>simp [pack,lo,loL,V.closed,closedL,mv_closed,e])
  by_cases a5:c.text=[]
  case neg =>
    have e:noneC c=false:=decide_eq_false fun h => a5 h.2.2.2.2.2.1
    simp (maxSteps:=1000000) (disch:=omega) only [rg,gD,simprocAttr,c48,cmdV,tasksV,mv_len,a0,a1,a2,a3,a4,a5]
    (refine fin_x rfl ?_ ?_<;>simp [pack,lo,loL,V.closed,closedL,mv_closed,e])
  by_cases a6:c.dag.name=[]
  case neg =>
    have e:noneC c=false:=decide_eq_false fun h => a6 h.2.2.2.2.2.2.1
    simp (maxSteps:=1000000) (disch:=omega) only [rg,gD,simprocAttr,c48,cmdV,tasksV,mv_len,a0,a1,a2,a3,a4,a5,a6]
    (refine fin_x rfl ?_ ?_<;>simp [pack,lo,loL,V.closed,closedL,mv_closed,e])
  by_cases a7:c.dag.tasks.length=0
  case neg =>
    have e:noneC c=false:=decide_eq_false fun h => a7 h.2.2.2.2.2.2.2
    simp (maxSteps:=1000000) (disch:=omega) only [rg,gD,simprocAttr,c48,cmdV,tasksV,mv_len,a0,a1,a2,a3,a4,a5,a6,show ¬ (c.dag.tasks.length:Int)=0 by omega]
    (refine fin_x rfl ?_ ?_<;>simp [pack,lo,loL,V.closed,closedL,mv_closed,e])
  have e:noneC c=true:=decide_eq_true ⟨a0,a1,a2,a3,a4,a5,a6,a7⟩
  simp (maxSteps:=1000000) (disch:=omega) only [rg,gD,simprocAttr,c48,cmdV,tasksV,mv_len,a0,a1,a2,a3,a4,a5,a6,show (c.dag.tasks.length:Int)=0 by omega]
  (refine fin_x rfl ?_ ?_<;>simp [pack,lo,loL,V.closed,closedL,mv_closed,e])
theorem p_command (c:Cmd) (hc:okCmd c):PCall Tryz.prog 51 [cmdV c] (.bool (lineCmd c)):=by
  refine en51 (by simp) (by simp [closedL,cmdV_closed]) ?_
  have kp:=frame_put c hc
  unfold cmdV tasksV at kp
  have kd:=dag_right c.dag hc.2.2.2.2.1 hc.2.2.2.1
  unfold dagV tasksV at kd
  by_cases hP:cmdP c
  case neg =>
    have e:cmdPutS c=([],1):=by rw [cmdPutS,if_neg hP]
    have el:lineCmd c=false:=by rw [lineCmd,decide_eq_false hP]; rfl
    rw [e] at kp
    simp (maxSteps:=1000000) (disch:=omega) only [rg,gD,simprocAttr,c51,cmdV,tasksV]
    refine ⟨_,kp, ?_⟩
    simp (maxSteps:=1000000) (disch:=omega) only [rg,gD,simprocAttr,sV]
    (refine fin_x rfl ?_ ?_<;>simp [pack,lo,loL,V.closed,closedL,mv_closed,el])
  have e:cmdPutS c=(sealS (cmdB c),0):=by rw [cmdPutS,if_pos hP]
  rw [e] at kp
  by_cases t1:(1099511627776:Int) < c.token
  · have el:lineCmd c=false:=by rw [lineCmd,timeOk,decide_eq_true hP,decide_eq_false (by omega)]; rfl
    simp (maxSteps:=1000000) (disch:=omega) only [rg,gD,simprocAttr,c51,cmdV,tasksV]
    refine ⟨_,kp, ?_⟩
    simp (maxSteps:=1000000) (disch:=omega) only [rg,gD,simprocAttr,sV,t1]
    (refine fin_x rfl ?_ ?_<;>simp [pack,lo,loL,V.closed,closedL,mv_closed,el])
  by_cases t2:(1099511627776:Int) < c.time
  · have el:lineCmd c=false:=by rw [lineCmd,timeOk,decide_eq_true hP,decide_eq_false (by omega)]; rfl
    simp (maxSteps:=1000000) (disch:=omega) only [rg,gD,simprocAttr,c51,cmdV,tasksV]
    refine ⟨_,kp, ?_⟩
    simp (maxSteps:=1000000) (disch:=omega) only [rg,gD,simprocAttr,sV,t1,t2]
    (refine fin_x rfl ?_ ?_<;>simp [pack,lo,loL,V.closed,closedL,mv_closed,el])
  have el:lineCmd c=wordsOk c:=by rw [lineCmd,timeOk,decide_eq_true hP,decide_eq_true (by omega)]; rfl
  simp (maxSteps:=1000000) (disch:=omega) only [rg,gD,simprocAttr,c51,cmdV,tasksV]
  refine ⟨_,kp, ?_⟩
  simp (maxSteps:=1000000) (disch:=omega) only [rg,gD,simprocAttr,sV,t1,t2]
  by_cases k1:c.kind=1
  · have e2:lineCmd c=nameB c.dag.name:=by rw [el,wordsOk,if_pos k1]
    have hd:dagRightS c.dag=0:=by rw [← right_same]; exact hP.2.2.2.2 k1
    rw [hd] at kd
    simp (maxSteps:=1000000) (disch:=omega) only [rg,gD,simprocAttr,k1]
    refine ⟨_,kd, ?_⟩
    simp (maxSteps:=1000000) (disch:=omega) only [rg,gD,simprocAttr]
    refine ⟨_,p_name _, ?_⟩
    simp (maxSteps:=1000000) (disch:=omega) only [rg,gD,simprocAttr]
    (refine fin_x rfl ?_ ?_<;>simp [pack,lo,loL,V.closed,closedL,mv_closed,e2])
  by_cases k2:c.kind=2
  · have e2:lineCmd c=(nameB c.key && nameB c.name):=by rw [el,wordsOk,if_neg k1,if_pos k2]
    simp (maxSteps:=1000000) (disch:=omega) only [rg,gD,simprocAttr,k1,k2]
    refine ⟨_,p_name _, ?_⟩
    cases hn:nameB c.key with
    | false =>
      rw [hn,Bool.false_and] at e2
      simp (maxSteps:=1000000) (disch:=omega) only [rg,gD,simprocAttr]
      (refine fin_x rfl ?_ ?_<;>simp [pack,lo,loL,V.closed,closedL,mv_closed,e2])
    | true =>
      rw [hn,Bool.true_and] at e2
      simp (maxSteps:=1000000) (disch:=omega) only [rg,gD,simprocAttr]
      refine ⟨_,p_name _, ?_⟩
      simp (maxSteps:=1000000) (disch:=omega) only [rg,gD,simprocAttr]
      (refine fin_x rfl ?_ ?_<;>simp [pack,lo,loL,V.closed,closedL,mv_closed,e2])
  by_cases k5:c.kind=5
  · by_cases x:c.text=[]
    · have e2:lineCmd c=true:=by rw [el,wordsOk,if_neg k1,if_neg k2,if_pos k5,decide_eq_true x]; rfl
      simp (maxSteps:=1000000) (disch:=omega) only [rg,gD,simprocAttr,k1,k2,k5,x]
      (refine fin_x rfl ?_ ?_<;>simp [pack,lo,loL,V.closed,closedL,mv_closed,e2])
    · have e2:lineCmd c=nameB c.text:=by rw [el,wordsOk,if_neg k1,if_neg k2,if_pos k5,decide_eq_false x]; rfl
      simp (maxSteps:=1000000) (disch:=omega) only [rg,gD,simprocAttr,k1,k2,k5,x]
      refine ⟨_,p_name _, ?_⟩
      simp (maxSteps:=1000000) (disch:=omega) only [rg,gD,simprocAttr]
      (refine fin_x rfl ?_ ?_<;>simp [pack,lo,loL,V.closed,closedL,mv_closed,e2])
  by_cases k7:c.kind=7
  · have e2:lineCmd c=nameB c.key:=by rw [el,wordsOk,if_neg k1,if_neg k2,if_neg k5,if_pos (.inl k7)]
    simp (maxSteps:=1000000) (disch:=omega) only [rg,gD,simprocAttr,k1,k2,k5,k7]
    refine ⟨_,p_name _, ?_⟩
    simp (maxSteps:=1000000) (disch:=omega) only [rg,gD,simprocAttr]
    (refine fin_x rfl ?_ ?_<;>simp [pack,lo,loL,V.closed,closedL,mv_closed,e2])
  by_cases k9:c.kind=9
  · have e2:lineCmd c=nameB c.key:=by rw [el,wordsOk,if_neg k1,if_neg k2,if_neg k5,if_pos (.inr k9)]
    simp (maxSteps:=1000000) (disch:=omega) only [rg,gD,simprocAttr,k1,k2,k5,k7,k9]
    refine ⟨_,p_name _, ?_⟩
    simp (maxSteps:=1000000) (disch:=omega) only [rg,gD,simprocAttr]
    (refine fin_x rfl ?_ ?_<;>simp [pack,lo,loL,V.closed,closedL,mv_closed,e2])
  have e2:lineCmd c=true:=by rw [el,wordsOk,if_neg k1,if_neg k2,if_neg k5,if_neg (by omega)]
  simp (maxSteps:=1000000) (disch:=omega) only [rg,gD,simprocAttr,k1,k2,k5,k7,k9]
  (refine fin_x rfl ?_ ?_<;>simp [pack,lo,loL,V.closed,closedL,mv_closed,e2])
theorem p_mask (H:Hp) (x:Int):ACall Tryz.prog 50 [.int .i64 x] H [] (.bool (!maskB x)) [] 0:=by
  refine ena50 (by simp) (by simp [lowL,V.low]) (by simp) (by simp) ?_
  by_cases a:x < 0
  · simp (maxSteps:=1000000) (disch:=omega) only [rg,gD,simprocAttr,c50,a]
    exact fin_A (l:=[.bool true]) rfl (.inl (by simp [pack,maskB]; omega)) (by simp) (fun id => .inr rfl)
  by_cases b:(255:Int) < x
  · simp (maxSteps:=1000000) (disch:=omega) only [rg,gD,simprocAttr,c50,a,b]
    exact fin_A (l:=[.bool true]) rfl (.inl (by simp [pack,maskB]; omega)) (by simp) (fun id => .inr rfl)
  simp (maxSteps:=1000000) (disch:=omega) only [rg,gD,simprocAttr,c50,a,b]
  exact fin_A (l:=[.bool false]) rfl (.inl (by simp [pack,maskB]; omega)) (by simp) (fun id => .inr rfl)
theorem any_not {α:Type} (l:List α) (q:α→Bool):(l.any fun x => !q x)=!l.all q:=by
  induction l with
  | nil => rfl
  | cons a l ih => simp [ih,Bool.not_and]
theorem p_step (s:Stp) (hc:okCmd s.cmd) (hm:s.masks.length≤4611686018427387904):PCall Tryz.prog 32 [stpV s] (.bool (stpB s)):=by
  refine en32 (by simp) (by simp [closedL,stpV_closed]) ?_
  have kn:=p_none s.cmd
  have kc:=p_command s.cmd hc
  unfold cmdV tasksV at kn kc
  obtain ⟨c,chk,cr,ms⟩:=s
  simp only at hc hm kn kc
  cases cr with
  | true =>
    cases chk with
    | true =>
      simp (maxSteps:=1000000) (disch:=omega) only [rg,gD,simprocAttr,c32,stpV,tasksV,vI_len]
      (refine fin_x rfl ?_ ?_<;>simp [pack,lo,loL,V.closed,closedL,mv_closed,stpB])
    | false =>
      simp (maxSteps:=1000000) (disch:=omega) only [rg,gD,simprocAttr,c32,stpV,tasksV,vI_len]
      refine ⟨_,kn, ?_⟩
      cases hn:noneC c with
      | false =>
        simp (maxSteps:=1000000) (disch:=omega) only [rg,gD,simprocAttr]
        (refine fin_x rfl ?_ ?_<;>simp [pack,lo,loL,V.closed,closedL,mv_closed,stpB,hn])
      | true =>
        by_cases h64:ms.length≤64
        · simp (maxSteps:=1000000) (disch:=omega) only [rg,gD,simprocAttr,vI_len,show (ms.length:Int)≤64 by omega]
          refine ⟨_,_,_,_,con_ints (rows:=ms) (q:=fun x => !maskB x) (fp:=[]) (kk:=0) (by omega) rfl rfl (FpOk.nil _) (fun x hx H' h1 h2 => p_mask H' x), ?_⟩
          rw [any_not]
          simp (maxSteps:=1000000) (disch:=omega) only [rg,gD,simprocAttr]
          (refine fin_x rfl ?_ ?_<;>simp [pack,lo,loL,V.closed,closedL,mv_closed,stpB,hn,h64])
        · simp (maxSteps:=1000000) (disch:=omega) only [rg,gD,simprocAttr,vI_len,show ¬ (ms.length:Int)≤64 by omega]
          (refine fin_x rfl ?_ ?_<;>simp [pack,lo,loL,V.closed,closedL,mv_closed,stpB,hn,h64])
  | false =>
    cases chk with
    | true =>
      simp (maxSteps:=1000000) (disch:=omega) only [rg,gD,simprocAttr,c32,stpV,tasksV,vI_len]
      refine ⟨_,kn, ?_⟩
      cases hn:noneC c with
      | false =>
        simp (maxSteps:=1000000) (disch:=omega) only [rg,gD,simprocAttr]
        (refine fin_x rfl ?_ ?_<;>simp [pack,lo,loL,V.closed,closedL,mv_closed,stpB,hn])
      | true =>
        by_cases h0:ms.length=0
        · simp (maxSteps:=1000000) (disch:=omega) only [rg,gD,simprocAttr,vI_len,show (ms.length:Int)=0 by omega]
          (refine fin_x rfl ?_ ?_<;>simp [pack,lo,loL,V.closed,closedL,mv_closed,stpB,hn,h0])
        · simp (maxSteps:=1000000) (disch:=omega) only [rg,gD,simprocAttr,vI_len,show ¬ (ms.length:Int)=0 by omega]
          (refine fin_x rfl ?_ ?_<;>simp [pack,lo,loL,V.closed,closedL,mv_closed,stpB,hn,h0])
    | false =>
      simp (maxSteps:=1000000) (disch:=omega) only [rg,gD,simprocAttr,c32,stpV,tasksV,vI_len]
      refine ⟨_,kc, ?_⟩
      cases hn:lineCmd c with
      | false =>
        simp (maxSteps:=1000000) (disch:=omega) only [rg,gD,simprocAttr]
        (refine fin_x rfl ?_ ?_<;>simp [pack,lo,loL,V.closed,closedL,mv_closed,stpB,hn])
      | true =>
        by_cases h0:ms.length=0
        · simp (maxSteps:=1000000) (disch:=omega) only [rg,gD,simprocAttr,vI_len,show (ms.length:Int)=0 by omega]
          (refine fin_x rfl ?_ ?_<;>simp [pack,lo,loL,V.closed,closedL,mv_closed,stpB,hn,h0])
        · simp (maxSteps:=1000000) (disch:=omega) only [rg,gD,simprocAttr,vI_len,show ¬ (ms.length:Int)=0 by omega]
          (refine fin_x rfl ?_ ?_<;>simp [pack,lo,loL,V.closed,closedL,mv_closed,stpB,hn,h0])
def okStp (s:Stp):Prop:=okCmd s.cmd∧s.masks.length≤4611686018427387904
theorem p_clo (H:Hp) (s:Stp) (h:okStp s):ACall Tryz.prog 31 [stpV s] H [] (.bool (!stpB s)) [] 1:=by
  refine ena31 (by simp) (by simp [lowL,V.low_closed _ (stpV_closed s)]) (by simp) (by simp) ?_
  have k:=p_step s h.1 h.2
  unfold stpV tasksV at k ⊢
  simp (maxSteps:=1000000) (disch:=omega) only [rg,gD,simprocAttr,c31]
  refine ⟨_,k, ?_⟩
  simp (maxSteps:=1000000) (disch:=omega) only [rg,gD,simprocAttr]
  refine fin_A (l:=[.bool (!stpB s)]) rfl (.inl rfl) (by simp) (fun j => ?_)
  by_cases hj:j=H.n
  · subst hj; left; simp [appd,only]
  · right; simp [appd,upd,hj]
def unT:V→Task
  | .agg [.fsl _ _ l,.int _ a,.int _ b,.int _ c] => ⟨l.map unI,a,b,c⟩
  | _ => ⟨[],0,0,0⟩
theorem unT_map:∀ l:List Task,(mv taskV l).map unT=l
  | [] => rfl
  | t::l => by
    show unT (taskV t)::(mv taskV l).map unT=_
    rw [unT_map l]; simp only [taskV,unT,unI_map]
def unP:V→Stp
  | .agg [.int _ a,.str b,.str c,.int _ d,.int _ e,.str f,.str g,.fsl _ _ l,.bool h,.bool i,.fsl _ _ m] => ⟨⟨a,b,c,d,e,f,⟨g,l.map unT⟩⟩,h,i,m.map unI⟩
  | _ => ⟨zeroC,false,false,[]⟩
theorem unP_stp (s:Stp):unP (stpV s)=s:=by
  simp only [stpV,unP,tasksV,unT_map,unI_map]
theorem con_steps {st:St} {rows:List Stp} {fs cs:List V} {g:Nat} {q:Stp→Bool} {H:Hp} {fp:List Nat} {kk:Nat} (hn:rows.length≤1000000) (hl:lowL H.n fs=true) (hl':lowL H.n cs=true) (hfp:FpOk H fp)
    (hg:∀ x∈rows,∀ H':Hp,H.n≤H'.n→(∀ id∈fp,H'.m id=H.m id)→ACall Tryz.prog g (fs++[stpV x]++cs) H' fp (.bool (q x)) [] kk) :
    ACall Tryz.prog 30 [.fsl st 11 (mv stpV rows),.fn g fs cs] H fp (.bool (rows.any q)) [] (rows.length*kk):=by
  have:=con_gen (f:=30) (f2:=47) (sz:=11) (k:=some 11) (st:=st) (rows:=mv stpV rows) (fs:=fs) (cs:=cs) (g:=g) (q:=fun v => q (unP v)) (H:=H) (fp:=fp) (kk:=kk)
    ena30 ena47 (by decide) (by decide) (mv_closed stpV_closed) (fun e he => by obtain ⟨a,_,rfl⟩:=mv_mem he; rfl) (by rw [mv_len]; omega) hl hl' hfp
    (fun e he H' h1 h2 => by obtain ⟨a,ha,rfl⟩:=mv_mem he; simp only [unP_stp]; exact hg a ha H' h1 h2)
  rw [mv_len] at this
  have e:(mv stpV rows).any (fun v => q (unP v))=rows.any q:=by
    rw [mv,List.any_map]; congr 1; funext t; exact congrArg q (unP_stp t)
  rwa [e] at this
theorem p_right (p:Pln) (h:∀ s∈p.steps,okStp s):PCall Tryz.prog 10 [plnV p] (.bool (planB p)):=by
  refine en10 (by simp) (by simp [closedL,plnV_closed]) ?_
  by_cases a:(24:Int)≤p.size
  case neg =>
    have e:planB p=false:=by rw [planB,decide_eq_false (by omega)]; rfl
    simp (maxSteps:=1000000) (disch:=omega) only [rg,gD,simprocAttr,c10,plnV,mv_len,a]
    (refine fin_x rfl ?_ ?_<;>simp [pack,lo,loL,V.closed,closedL,mv_closed,e])
  by_cases b:p.size≤(200:Int)
  case neg =>
    have e:planB p=false:=by rw [planB,decide_eq_false (by omega)]; rfl
    simp (maxSteps:=1000000) (disch:=omega) only [rg,gD,simprocAttr,c10,plnV,mv_len,a,b]
    (refine fin_x rfl ?_ ?_<;>simp [pack,lo,loL,V.closed,closedL,mv_closed,e])
  by_cases d:p.steps.length≤200
  case neg =>
    have e:planB p=false:=by rw [planB,decide_eq_true (by omega),decide_eq_false d]; rfl
    simp (maxSteps:=1000000) (disch:=omega) only [rg,gD,simprocAttr,c10,plnV,mv_len,a,b,show ¬ (p.steps.length:Int)≤200 by omega]
    (refine fin_x rfl ?_ ?_<;>simp [pack,lo,loL,V.closed,closedL,mv_closed,e])
  have e:planB p=p.steps.all stpB:=by rw [planB,decide_eq_true (by omega),decide_eq_true d]; rfl
  simp (maxSteps:=1000000) (disch:=omega) only [rg,gD,simprocAttr,c10,plnV,mv_len,a,b,show (p.steps.length:Int)≤200 by omega]
  refine ⟨_,_,_,_,con_steps (rows:=p.steps) (q:=fun s => !stpB s) (fp:=[]) (kk:=1) (by omega) rfl rfl (FpOk.nil _) (fun x hx H' h1 h2 => p_clo H' x (h x hx)), ?_⟩
  rw [any_not]
  simp (maxSteps:=1000000) (disch:=omega) only [rg,gD,simprocAttr]
  (refine fin_x rfl ?_ ?_<;>simp [pack,lo,loL,V.closed,closedL,mv_closed,e])
theorem p_alive:PCall Tryz.prog 7 [] (.bool true):=by
  refine en7 (by simp) (by simp [closedL]) ?_
  have k:=p_right ⟨24,[]⟩ (by simp)
  have e:planB ⟨24,[]⟩=true:=by decide
  rw [e] at k
  simp only [plnV,mv,List.map_nil] at k
  simp (maxSteps:=1000000) (disch:=omega) only [rg,gD,simprocAttr,c7]
  refine ⟨_,PCall.of_eq k rfl, ?_⟩
  simp (maxSteps:=1000000) (disch:=omega) only [rg,gD,simprocAttr]
  (refine fin_x rfl ?_ ?_<;>simp [pack,lo,loL,V.closed,closedL,mv_closed])
def mkTask:List Int→Option Task
  | a::b::c::r => some ⟨r,a,b,c⟩
  | _ => none
def taskP (w:Str):Option Task:=if ((splitC 44 w).map numS).all (fun n => decide (0≤n))=true then mkTask ((splitC 44 w).map numS) else none
def taskR (w:Str):Option Task:=mkTask ((splitC 44 w).map refN)
def takeT (f:Str→Option Task):List Str→List Task×Bool
  | [] => ([],true)
  | w::ws => match f w with
    | none => ([],false)
    | some t => (t::(takeT f ws).1,(takeT f ws).2)
def zeroS:Stp:=⟨zeroC,false,false,[]⟩
def mkS (c:Cmd):Stp:=⟨c,false,false,[]⟩
def rawP:List Str→Option (Stp×List Str)
  | [] => none
  | first::rest =>
    if first=wCrash then some (⟨zeroC,false,true,rest.map numS⟩,[])
    else if first=wCheck then some (⟨zeroC,true,false,[]⟩,rest)
    else if first=wGraph then (if (takeT taskP rest.tail).2=true then some (mkS ⟨1,[],[],0,0,[],⟨rest.headD [],(takeT taskP rest.tail).1⟩⟩,[]) else none)
    else if first=wStart then some (mkS ⟨2,rest.headD [],rest.tail.headD [],0,0,[],zeroD⟩,rest.tail.tail)
    else if first=wPoll then some (mkS ⟨3,[],[],0,0,[],zeroD⟩,rest)
    else if first=wBeat then some (mkS ⟨4,[],[],numS (rest.headD []),0,[],zeroD⟩,rest.tail)
    else if first=wDone then (if rest.tail=[] then some (mkS ⟨5,[],[],numS (rest.headD []),0,[],zeroD⟩,[]) else if rest.tail.headD []=[] then none else some (mkS ⟨5,[],[],numS (rest.headD []),0,rest.tail.headD [],zeroD⟩,rest.tail.tail))
    else if first=wFail then some (mkS ⟨6,[],[],numS (rest.headD []),0,[],zeroD⟩,rest.tail)
    else if first=wCancel then some (mkS ⟨7,rest.headD [],[],0,0,[],zeroD⟩,rest.tail)
    else if first=wTick then some (mkS ⟨8,[],[],0,numS (rest.headD []),[],zeroD⟩,rest.tail)
    else if first=wState then some (mkS ⟨9,rest.headD [],[],0,0,[],zeroD⟩,rest.tail)
    else if first=wSync then some (mkS ⟨10,[],[],0,0,[],zeroD⟩,rest)
    else none
def parseS (text:Str):Stp×Bool:=match rawP (splitC 32 text) with
  | none => (zeroS,false)
  | some (x,left) => (x,decide (left=[]) && stpB x)
def readR (ws:List Str):Stp×Bool :=
  if ws.headD []=wCrash then (⟨zeroC,false,true,ws.tail.map refN⟩,true)
  else if ws.headD []=wCheck then (⟨zeroC,true,false,[]⟩,true)
  else if ws.headD []=wGraph then (mkS ⟨1,[],[],0,0,[],⟨ws.tail.headD [],(takeT taskR ws.tail.tail).1⟩⟩,(takeT taskR ws.tail.tail).2)
  else if ws.headD []=wStart then (mkS ⟨2,ws.tail.headD [],ws.tail.tail.headD [],0,0,[],zeroD⟩,true)
  else if ws.headD []=wPoll then (mkS ⟨3,[],[],0,0,[],zeroD⟩,true)
  else if ws.headD []=wBeat then (mkS ⟨4,[],[],refN (ws.tail.headD []),0,[],zeroD⟩,true)
  else if ws.headD []=wDone then (mkS ⟨5,[],[],refN (ws.tail.headD []),0,ws.tail.tail.headD [],zeroD⟩,true)
  else if ws.headD []=wFail then (mkS ⟨6,[],[],refN (ws.tail.headD []),0,[],zeroD⟩,true)
  else if ws.headD []=wCancel then (mkS ⟨7,ws.tail.headD [],[],0,0,[],zeroD⟩,true)
  else if ws.headD []=wTick then (mkS ⟨8,[],[],0,refN (ws.tail.headD []),[],zeroD⟩,true)
  else if ws.headD []=wState then (mkS ⟨9,ws.tail.headD [],[],0,0,[],zeroD⟩,true)
  else if ws.headD []=wSync then (mkS ⟨10,[],[],0,0,[],zeroD⟩,true)
  else (zeroS,false)
def lineC (y:Stp) (text:Str):Prop:=stpB y=true∧Lib.join (wordsS y) [32]=text
theorem noneC_eq {c:Cmd} (h:noneC c=true):c=zeroC:=by
  obtain ⟨h1,h2,h3,h4,h5,h6,h7,h8⟩:=of_decide_eq_true h
  obtain ⟨a,b,d,e,f,g,⟨n,l⟩⟩:=c
  simp only at h1 h2 h3 h4 h5 h6 h7 h8
  rw [h1,h2,h3,h4,h5,h6,h7,List.eq_nil_of_length_eq_zero h8]; rfl
theorem numW_num {l:List Int} (h:∀ x∈l,0≤x∧x≤9223372036854775807):(numW l).map numS=l:=by
  induction l with
  | nil => rfl
  | cons a l ih =>
    have ha:=h a (by simp)
    have:=numS_of a.toNat (by omega)
    rw [Int.toNat_of_nonneg ha.1] at this
    simp only [numW,List.map_cons] at ih ⊢
    rw [this,ih fun x hx => h x (by simp [hx])]
theorem numW_ref {l:List Int} (h:∀ x∈l,0≤x∧x < 10000000000000):(numW l).map refN=l:=by
  induction l with
  | nil => rfl
  | cons a l ih =>
    have ha:=h a (by simp)
    have:=refN_of a.toNat (by omega)
    rw [Int.toNat_of_nonneg ha.1] at this
    simp only [numW,List.map_cons] at ih ⊢
    rw [this,ih fun x hx => h x (by simp [hx])]
theorem num_back:∀ {l:List Str},(∀ w∈l,0≤numS w)→numW (l.map numS)=l
  | [],_ => rfl
  | w::l,h => by
    have:=num_back (l:=l) fun x hx => h x (by simp [hx])
    simp only [numW,List.map_cons] at this ⊢
    rw [this,numS_back (h w (by simp))]
def tkB (t:Task):Prop:=∀ x∈[t.tries,t.wait,t.lease]++t.needs,0≤x∧x < 10000000000000
theorem put_bd {n k:Int} (h:(putS n k).2=0) (hk:k≤3):0≤n∧n < 10000000000000:=by
  obtain ⟨h1,h2,h3,h4⟩:=putS_ok.1 h
  have:k=1∨k=2∨k=3:=by omega
  rcases this with rfl | rfl | rfl<;>simp at h4<;>omega
theorem tk_bd {d:Dag} (h:refRightS d=0):∀ t∈d.tasks,tkB t:=by
  intro t ht x hx
  obtain ⟨h1,h2,h3,h4,h5⟩:=(right_fit h).1.2.2 t ht
  simp only [List.mem_append,List.mem_cons,List.not_mem_nil,or_false] at hx
  rcases hx with (rfl | rfl | rfl) | hx
  · exact put_bd h3 (by omega)
  · exact put_bd h4 (by omega)
  · exact put_bd h5 (by omega)
  · exact put_bd (h2 x hx) (by omega)
theorem split_task (t:Task):splitC 44 (taskW t)=numW ([t.tries,t.wait,t.lease]++t.needs):=by
  rw [taskW,split_join 44 _ (by simp [numW])]
  intro w hw
  obtain ⟨x,_,rfl⟩:=List.mem_map.1 hw
  exact itoa_no (.inr rfl)
theorem taskP_of {t:Task} (h:tkB t):taskP (taskW t)=some t:=by
  rw [taskP,split_task,numW_num fun x hx => by have:=h x hx; omega,if_pos]
  · rfl
  · rw [List.all_eq_true]; intro x hx; exact decide_eq_true (h x hx).1
theorem taskR_of {t:Task} (h:tkB t):taskR (taskW t)=some t:=by
  rw [taskR,split_task,numW_ref h]; rfl
theorem taskP_back {w:Str} {t:Task} (h:taskP w=some t):taskW t=w:=by
  unfold taskP at h
  split at h
  · rename_i ha
    rw [List.all_eq_true] at ha
    have hb:=num_back (l:=splitC 44 w) fun x hx => by simpa using ha (numS x) (List.mem_map_of_mem hx)
    have hj:=join_split 44 w
    cases hl:(splitC 44 w).map numS with
    | nil => rw [hl] at h; simp [mkTask] at h
    | cons a l => cases l with
      | nil => rw [hl] at h; simp [mkTask] at h
      | cons b l => cases l with
        | nil => rw [hl] at h; simp [mkTask] at h
        | cons c r =>
          rw [hl] at h hb
          simp only [mkTask,Option.some.injEq] at h; subst h
          rw [taskW]; show Lib.join (numW (a::b::c::r)) [44]=w
          rw [hb,hj]
  · cases h
theorem take_all {f:Str→Option Task}:∀ {l:List Task},(∀ t∈l,f (taskW t)=some t)→takeT f (l.map taskW)=(l,true)
  | [],_ => rfl
  | t::l,h => by
    have ih:=take_all (l:=l) fun x hx => h x (by simp [hx])
    simp only [List.map_cons,takeT,h t (by simp),ih]
theorem take_back:∀ {l:List Str},(takeT taskP l).2=true→((takeT taskP l).1).map taskW=l
  | [],_ => rfl
  | w::l,h => by
    simp only [takeT] at h ⊢
    cases ht:taskP w with
    | none => rw [ht] at h; cases h
    | some t =>
      rw [ht] at h
      simp only at h ⊢
      rw [List.map_cons,taskP_back ht,take_back h]
theorem name_no {s:Str} (h:nameB s=true):(32:UInt8)∉s:=by
  intro hm
  simp only [nameB,Bool.and_eq_true,List.all_eq_true] at h
  have:=h.2 32 hm
  simp [lowB] at this
theorem words_no {y:Stp} (h:stpB y=true):∀ w∈wordsS y,(32:UInt8)∉w:=by
  obtain ⟨c,chk,cr,ms⟩:=y
  have num:∀ v:Int,(32:UInt8)∉Lib.itoa v:=fun v => itoa_no (.inl rfl)
  cases cr with
  | true =>
    intro w hw
    simp only [wordsS,if_true,List.mem_append,List.mem_singleton,numW,List.mem_map] at hw
    rcases hw with rfl | ⟨x,_,rfl⟩
    · decide
    · exact num x
  | false =>
  cases chk with
  | true => intro w hw; simp [wordsS] at hw; subst hw; decide
  | false =>
  have hcm:lineCmd c=true:=by simp [stpB] at h; exact h.1
  have hw0:wordsOk c=true:=by simp [lineCmd] at hcm; exact hcm.2
  intro w hw
  simp only [wordsS,Bool.false_eq_true,if_false,wordsL] at hw
  unfold wordsOk at hw0
  by_cases k1:c.kind=1
  · rw [if_pos k1] at hw hw0
    simp only [List.mem_append,List.mem_cons,List.not_mem_nil,or_false,List.mem_map] at hw
    rcases hw with (rfl | rfl) | ⟨t,_,rfl⟩
    · decide
    · exact name_no hw0
    · intro hm
      rw [taskW] at hm
      have:∀ l:List Str,(∀ w∈l,(32:UInt8)∉w)→(32:UInt8)∉Lib.join l [44]:=by
        intro l
        cases l with
        | nil => intro _; simp [Lib.join_nil]
        | cons a l =>
          intro hl hm
          rw [Lib.join_cons] at hm
          rcases List.mem_append.1 hm with hm | hm
          · exact hl a (by simp) hm
          · simp only [Lib.joinTail,List.mem_flatten,List.mem_map] at hm
            obtain ⟨_,⟨x,hx,rfl⟩,hm⟩:=hm
            rcases List.mem_append.1 hm with hm | hm
            · simp at hm
            · exact hl x (by simp [hx]) hm
      refine this _ (fun w hw => ?_) hm
      obtain ⟨x,_,rfl⟩:=List.mem_map.1 hw
      exact num x
  rw [if_neg k1] at hw hw0
  by_cases k2:c.kind=2
  · rw [if_pos k2] at hw hw0
    simp only [Bool.and_eq_true] at hw0
    simp only [List.mem_cons,List.not_mem_nil,or_false] at hw
    rcases hw with rfl | rfl | rfl
    · decide
    · exact name_no hw0.1
    · exact name_no hw0.2
  rw [if_neg k2] at hw hw0
  by_cases k5:c.kind=5
  · rw [if_pos k5] at hw0
    rw [if_neg (by omega),if_neg (by omega),if_pos k5] at hw
    split at hw
    · simp only [List.mem_cons,List.not_mem_nil,or_false] at hw
      rcases hw with rfl | rfl
      · decide
      · exact num _
    · rename_i hx
      simp only [hx,decide_false,Bool.false_or] at hw0
      simp only [List.mem_cons,List.not_mem_nil,or_false] at hw
      rcases hw with rfl | rfl | rfl
      · decide
      · exact num _
      · exact name_no hw0
  rw [if_neg k5] at hw0
  by_cases k79:c.kind=7∨c.kind=9
  · rw [if_pos k79] at hw0
    rcases k79 with k | k<;>simp [k] at hw<;>rcases hw with rfl | rfl<;>first | decide | exact name_no hw0
  · repeat' split at hw
    all_goals (simp only [List.mem_cons,List.not_mem_nil,or_false] at hw)
    all_goals (first | (rcases hw with rfl | rfl) | (subst hw))
    all_goals first | decide | exact num _ | (exfalso; omega)
theorem zeroD_of {d:Dag} (h:noDag d):d=zeroD:=noDag_eq h
theorem both (y:Stp) (h:stpB y=true):rawP (wordsS y)=some (y,[])∧readR (wordsS y)=(y,true):=by
  obtain ⟨c,chk,cr,ms⟩:=y
  cases cr with
  | true =>
    simp only [stpB,if_true,Bool.and_eq_true,Bool.not_eq_true',decide_eq_true_eq,List.all_eq_true] at h
    obtain ⟨⟨⟨rfl,h2⟩,h3⟩,h4⟩:=h
    obtain rfl:=noneC_eq h2
    have hb:∀ x∈ms,0≤x∧x≤255:=fun x hx => by simpa [maskB] using h4 x hx
    have e1:=numW_num (l:=ms) fun x hx => by have:=hb x hx; omega
    have e2:=numW_ref (l:=ms) fun x hx => by have:=hb x hx; omega
    have ew:wordsS ⟨zeroC,false,true,ms⟩=wCrash::numW ms:=by simp [wordsS]
    rw [ew]
    exact ⟨by rw [rawP,if_pos rfl,e1],by rw [readR,List.headD_cons,if_pos rfl,List.tail_cons,e2]⟩
  | false =>
  cases chk with
  | true =>
    simp only [stpB,Bool.false_eq_true,if_false,if_true,Bool.and_eq_true,decide_eq_true_eq] at h
    obtain rfl:=noneC_eq h.1
    obtain rfl:=List.eq_nil_of_length_eq_zero h.2
    exact ⟨rfl,rfl⟩
  | false =>
  simp only [stpB,Bool.false_eq_true,if_false,Bool.and_eq_true,decide_eq_true_eq] at h
  obtain ⟨hcm,hm⟩:=h
  obtain rfl:=List.eq_nil_of_length_eq_zero hm
  simp only [lineCmd,Bool.and_eq_true,decide_eq_true_eq] at hcm
  obtain ⟨⟨hP,ht⟩,hw⟩:=hcm
  obtain ⟨p1,p2,p3,p4,p5⟩:=hP
  simp only [timeOk,decide_eq_true_eq] at ht
  obtain ⟨k,key,nm,tok,tm,txt,d⟩:=c
  simp only at p1 p2 p5 ht
  obtain ⟨f1,f2,f3,f4,f5,f6,f7⟩:=p4
  simp only at f4 f6
  have n1:numS (Lib.itoa tok)=tok:=by have:=numS_of tok.toNat (by omega); rwa [Int.toNat_of_nonneg f4] at this
  have r1:refN (Lib.itoa tok)=tok:=by have:=refN_of tok.toNat (by omega); rwa [Int.toNat_of_nonneg f4] at this
  have n2:numS (Lib.itoa tm)=tm:=by have:=numS_of tm.toNat (by omega); rwa [Int.toNat_of_nonneg f6] at this
  have r2:refN (Lib.itoa tm)=tm:=by have:=refN_of tm.toNat (by omega); rwa [Int.toNat_of_nonneg f6] at this
  have hk:k=1∨k=2∨k=3∨k=4∨k=5∨k=6∨k=7∨k=8∨k=9∨k=10:=by omega
  rcases hk with rfl | rfl | rfl | rfl | rfl | rfl | rfl | rfl | rfl | rfl
  · simp [bareP] at p3
    obtain ⟨rfl,rfl,rfl,rfl,rfl⟩:=p3
    have hd:=p5 rfl
    have tb:=tk_bd hd
    have ew:wordsS ⟨⟨1,[],[],0,0,[],d⟩,false,false,[]⟩=wGraph::d.name::d.tasks.map taskW:=by simp [wordsS,wordsL]
    have a1:=take_all (f:=taskP) (l:=d.tasks) fun t ht => taskP_of (tb t ht)
    have a2:=take_all (f:=taskR) (l:=d.tasks) fun t ht => taskR_of (tb t ht)
    rw [ew]
    refine ⟨?_, ?_⟩
    · rw [rawP,if_neg (by decide),if_neg (by decide),if_pos rfl,List.tail_cons,a1,if_pos rfl]; rfl
    · rw [readR,List.headD_cons,if_neg (by decide),if_neg (by decide),if_pos rfl,List.tail_cons,List.tail_cons,a2]; rfl
  · simp [bareP] at p3
    obtain ⟨rfl,rfl,rfl,hz⟩:=p3
    obtain rfl:=zeroD_of hz
    have ew:wordsS ⟨⟨2,key,nm,0,0,[],zeroD⟩,false,false,[]⟩=[wStart,key,nm]:=by simp [wordsS,wordsL]
    rw [ew]
    refine ⟨?_, ?_⟩
    · rw [rawP,if_neg (by decide),if_neg (by decide),if_neg (by decide),if_pos rfl]; rfl
    · rw [readR,List.headD_cons,if_neg (by decide),if_neg (by decide),if_neg (by decide),if_pos rfl]; rfl
  · simp [bareP] at p3
    obtain ⟨rfl,rfl,rfl,rfl,rfl,hz⟩:=p3
    obtain rfl:=zeroD_of hz
    have ew:wordsS ⟨⟨3,[],[],0,0,[],zeroD⟩,false,false,[]⟩=[wPoll]:=by simp [wordsS,wordsL]
    rw [ew]
    refine ⟨?_, ?_⟩
    · rw [rawP,if_neg (by decide),if_neg (by decide),if_neg (by decide),if_neg (by decide),if_pos rfl]; rfl
    · rw [readR,List.headD_cons,if_neg (by decide),if_neg (by decide),if_neg (by decide),if_neg (by decide),if_pos rfl]; rfl
  · simp [bareP] at p3
    obtain ⟨rfl,rfl,rfl,rfl,hz⟩:=p3
    obtain rfl:=zeroD_of hz
    have ew:wordsS ⟨⟨4,[],[],tok,0,[],zeroD⟩,false,false,[]⟩=[wBeat,Lib.itoa tok]:=by simp [wordsS,wordsL]
    rw [ew]
    refine ⟨?_, ?_⟩
    · rw [rawP,if_neg (by decide),if_neg (by decide),if_neg (by decide),if_neg (by decide),if_neg (by decide),if_pos rfl]; show some (mkS ⟨4,[],[],numS (Lib.itoa tok),0,[],zeroD⟩,_)=_; rw [n1]; rfl
    · rw [readR,List.headD_cons,if_neg (by decide),if_neg (by decide),if_neg (by decide),if_neg (by decide),if_neg (by decide),if_pos rfl]; show (mkS ⟨4,[],[],refN (Lib.itoa tok),0,[],zeroD⟩,_)=_; rw [r1]; rfl
  · simp [bareP] at p3
    obtain ⟨rfl,rfl,rfl,hz⟩:=p3
    obtain rfl:=zeroD_of hz
    by_cases hx:txt=[]
    · subst hx
      have ew:wordsS ⟨⟨5,[],[],tok,0,[],zeroD⟩,false,false,[]⟩=[wDone,Lib.itoa tok]:=by simp [wordsS,wordsL]
      rw [ew]
      refine ⟨?_, ?_⟩
      · rw [rawP,if_neg (by decide),if_neg (by decide),if_neg (by decide),if_neg (by decide),if_neg (by decide),if_neg (by decide),if_pos rfl,if_pos (show ([Lib.itoa tok]:List Str).tail=[] from rfl)]; show some (mkS ⟨5,[],[],numS (Lib.itoa tok),0,[],zeroD⟩,_)=_; rw [n1]; rfl
      · rw [readR,List.headD_cons,if_neg (by decide),if_neg (by decide),if_neg (by decide),if_neg (by decide),if_neg (by decide),if_neg (by decide),if_pos rfl]; show (mkS ⟨5,[],[],refN (Lib.itoa tok),0,[],zeroD⟩,_)=_; rw [r1]; rfl
    · have ew:wordsS ⟨⟨5,[],[],tok,0,txt,zeroD⟩,false,false,[]⟩=[wDone,Lib.itoa tok,txt]:=by simp [wordsS,wordsL,hx]
      rw [ew]
      refine ⟨?_, ?_⟩
      · rw [rawP,if_neg (by decide),if_neg (by decide),if_neg (by decide),if_neg (by decide),if_neg (by decide),if_neg (by decide),if_pos rfl,if_neg (by simp),if_neg (by simpa using hx)]; show some (mkS ⟨5,[],[],numS (Lib.itoa tok),0,txt,zeroD⟩,_)=_; rw [n1]; rfl
      · rw [readR,List.headD_cons,if_neg (by decide),if_neg (by decide),if_neg (by decide),if_neg (by decide),if_neg (by decide),if_neg (by decide),if_pos rfl]; show (mkS ⟨5,[],[],refN (Lib.itoa tok),0,txt,zeroD⟩,_)=_; rw [r1]; rfl
  · simp [bareP] at p3
    obtain ⟨rfl,rfl,rfl,rfl,hz⟩:=p3
    obtain rfl:=zeroD_of hz
    have ew:wordsS ⟨⟨6,[],[],tok,0,[],zeroD⟩,false,false,[]⟩=[wFail,Lib.itoa tok]:=by simp [wordsS,wordsL]
    rw [ew]
    refine ⟨?_, ?_⟩
    · rw [rawP,if_neg (by decide),if_neg (by decide),if_neg (by decide),if_neg (by decide),if_neg (by decide),if_neg (by decide),if_neg (by decide),if_pos rfl]; show some (mkS ⟨6,[],[],numS (Lib.itoa tok),0,[],zeroD⟩,_)=_; rw [n1]; rfl
    · rw [readR,List.headD_cons,if_neg (by decide),if_neg (by decide),if_neg (by decide),if_neg (by decide),if_neg (by decide),if_neg (by decide),if_neg (by decide),if_pos rfl]; show (mkS ⟨6,[],[],refN (Lib.itoa tok),0,[],zeroD⟩,_)=_; rw [r1]; rfl
  · simp [bareP] at p3
    obtain ⟨rfl,rfl,rfl,rfl,hz⟩:=p3
    obtain rfl:=zeroD_of hz
    have ew:wordsS ⟨⟨7,key,[],0,0,[],zeroD⟩,false,false,[]⟩=[wCancel,key]:=by simp [wordsS,wordsL]
    rw [ew]
    refine ⟨?_, ?_⟩
    · rw [rawP,if_neg (by decide),if_neg (by decide),if_neg (by decide),if_neg (by decide),if_neg (by decide),if_neg (by decide),if_neg (by decide),if_neg (by decide),if_pos rfl]; rfl
    · rw [readR,List.headD_cons,if_neg (by decide),if_neg (by decide),if_neg (by decide),if_neg (by decide),if_neg (by decide),if_neg (by decide),if_neg (by decide),if_neg (by decide),if_pos rfl]; rfl
  · simp [bareP] at p3
    obtain ⟨rfl,rfl,rfl,rfl,hz⟩:=p3
    obtain rfl:=zeroD_of hz
    have ew:wordsS ⟨⟨8,[],[],0,tm,[],zeroD⟩,false,false,[]⟩=[wTick,Lib.itoa tm]:=by simp [wordsS,wordsL]
    rw [ew]
    refine ⟨?_, ?_⟩
    · rw [rawP,if_neg (by decide),if_neg (by decide),if_neg (by decide),if_neg (by decide),if_neg (by decide),if_neg (by decide),if_neg (by decide),if_neg (by decide),if_neg (by decide),if_pos rfl]; show some (mkS ⟨8,[],[],0,numS (Lib.itoa tm),[],zeroD⟩,_)=_; rw [n2]; rfl
    · rw [readR,List.headD_cons,if_neg (by decide),if_neg (by decide),if_neg (by decide),if_neg (by decide),if_neg (by decide),if_neg (by decide),if_neg (by decide),if_neg (by decide),if_neg (by decide),if_pos rfl]; show (mkS ⟨8,[],[],0,refN (Lib.itoa tm),[],zeroD⟩,_)=_; rw [r2]; rfl
  · simp [bareP] at p3
    obtain ⟨rfl,rfl,rfl,rfl,hz⟩:=p3
    obtain rfl:=zeroD_of hz
    have ew:wordsS ⟨⟨9,key,[],0,0,[],zeroD⟩,false,false,[]⟩=[wState,key]:=by simp [wordsS,wordsL]
    rw [ew]
    refine ⟨?_, ?_⟩
    · rw [rawP,if_neg (by decide),if_neg (by decide),if_neg (by decide),if_neg (by decide),if_neg (by decide),if_neg (by decide),if_neg (by decide),if_neg (by decide),if_neg (by decide),if_neg (by decide),if_pos rfl]; rfl
    · rw [readR,List.headD_cons,if_neg (by decide),if_neg (by decide),if_neg (by decide),if_neg (by decide),if_neg (by decide),if_neg (by decide),if_neg (by decide),if_neg (by decide),if_neg (by decide),if_neg (by decide),if_pos rfl]; rfl
  · simp [bareP] at p3
    obtain ⟨rfl,rfl,rfl,rfl,rfl,hz⟩:=p3
    obtain rfl:=zeroD_of hz
    have ew:wordsS ⟨⟨10,[],[],0,0,[],zeroD⟩,false,false,[]⟩=[wSync]:=by simp [wordsS,wordsL]
    rw [ew]
    refine ⟨?_, ?_⟩
    · rw [rawP,if_neg (by decide),if_neg (by decide),if_neg (by decide),if_neg (by decide),if_neg (by decide),if_neg (by decide),if_neg (by decide),if_neg (by decide),if_neg (by decide),if_neg (by decide),if_neg (by decide),if_pos rfl]; rfl
    · rw [readR,List.headD_cons,if_neg (by decide),if_neg (by decide),if_neg (by decide),if_neg (by decide),if_neg (by decide),if_neg (by decide),if_neg (by decide),if_neg (by decide),if_neg (by decide),if_neg (by decide),if_neg (by decide),if_pos rfl]; rfl
theorem words_ne (y:Stp):wordsS y≠[]:=by
  obtain ⟨c,chk,cr,ms⟩:=y
  simp only [wordsS]
  split
  · simp
  · split
    · simp
    · simp only [wordsL]; repeat' split
      all_goals simp
theorem split_line {y:Stp} {text:Str} (h:lineC y text):splitC 32 text=wordsS y:=by
  rw [← h.2]; exact split_join 32 _ (words_ne y) (words_no h.1)
theorem raw_back {ws:List Str} {x:Stp} (h:rawP ws=some (x,[])) (hs:stpB x=true):wordsS x=ws:=by
  cases ws with
  | nil => simp [rawP] at h
  | cons first rest =>
  have ge:∀ {c:Cmd},stpB (mkS c)=true→cmdP c∧wordsOk c=true:=fun {c} hc => by
    simp only [mkS,stpB,Bool.false_eq_true,if_false,Bool.and_eq_true] at hc
    have:=hc.1
    simp only [lineCmd,Bool.and_eq_true,decide_eq_true_eq] at this
    exact ⟨this.1.1,this.2⟩
  have one:∀ {w:List Str},numS (w.headD [])≥0→w.tail=[]→w=[Lib.itoa (numS (w.headD []))]:=fun {w} h0 h1 => by
    cases w with
    | nil => exact absurd h0 (by decide)
    | cons a r => simp only [List.tail_cons] at h1; subst h1; simp only [List.headD_cons] at h0 ⊢; rw [numS_back h0]
  have name1:∀ {w:List Str},nameB (w.headD [])=true→w.tail=[]→w=[w.headD []]:=fun {w} h0 h1 => by
    cases w with
    | nil => simp [nameB] at h0
    | cons a r => simp only [List.tail_cons] at h1; subst h1; rfl
  rw [rawP] at h
  by_cases c0:first=wCrash
  · rw [if_pos c0] at h
    simp only [Option.some.injEq,Prod.mk.injEq,and_true] at h; subst h; subst c0
    simp only [stpB,if_true,Bool.and_eq_true,List.all_eq_true] at hs
    have hb:=num_back (l:=rest) fun w hw => by
      have:=hs.2 (numS w) (List.mem_map_of_mem hw)
      simp only [maskB,decide_eq_true_eq] at this; exact this.1
    simp [wordsS,hb]
  rw [if_neg c0] at h
  by_cases c1:first=wCheck
  · rw [if_pos c1] at h
    simp only [Option.some.injEq,Prod.mk.injEq] at h; obtain ⟨rfl,rfl⟩:=h; subst c1; rfl
  rw [if_neg c1] at h
  by_cases c2:first=wGraph
  · rw [if_pos c2] at h
    split at h
    · rename_i ht
      simp only [Option.some.injEq,Prod.mk.injEq,and_true] at h; subst h; subst c2
      have hw:=(ge hs).2
      simp only [wordsOk,if_true] at hw
      cases rest with
      | nil => simp [nameB] at hw
      | cons a r =>
        simp only [List.tail_cons] at ht ⊢
        have:=take_back ht
        simp [wordsS,wordsL,mkS,this]
    · cases h
  rw [if_neg c2] at h
  by_cases c3:first=wStart
  · rw [if_pos c3] at h
    simp only [Option.some.injEq,Prod.mk.injEq] at h; obtain ⟨rfl,ht⟩:=h; subst c3
    have hw:=(ge hs).2
    simp [wordsOk] at hw
    cases rest with
    | nil => simp [nameB] at hw
    | cons a r => cases r with
      | nil => simp [nameB] at hw
      | cons b r =>
        simp only [List.tail_cons] at ht; subst ht; simp [wordsS,wordsL,mkS]
  rw [if_neg c3] at h
  by_cases c4:first=wPoll
  · rw [if_pos c4] at h
    simp only [Option.some.injEq,Prod.mk.injEq] at h; obtain ⟨rfl,rfl⟩:=h; subst c4; simp [wordsS,wordsL,mkS]
  rw [if_neg c4] at h
  by_cases c5:first=wBeat
  · rw [if_pos c5] at h
    simp only [Option.some.injEq,Prod.mk.injEq] at h; obtain ⟨rfl,ht⟩:=h; subst c5
    have hf:=(ge hs).1.2.2.2.1
    unfold fitP at hf
    have:=one (w:=rest) (by simp only at hf; omega) ht
    have e:wordsS (mkS ⟨4,[],[],numS (rest.headD []),0,[],zeroD⟩)=wBeat::[Lib.itoa (numS (rest.headD []))]:=by simp [wordsS,wordsL,mkS]
    rw [e,← this]
  rw [if_neg c5] at h
  by_cases c6:first=wDone
  · rw [if_pos c6] at h
    subst c6
    by_cases ht:rest.tail=[]
    · rw [if_pos ht] at h
      simp only [Option.some.injEq,Prod.mk.injEq,and_true] at h; subst h
      have hf:=(ge hs).1.2.2.2.1
      unfold fitP at hf
      have:=one (w:=rest) (by simp only at hf; omega) ht
      have e:wordsS (mkS ⟨5,[],[],numS (rest.headD []),0,[],zeroD⟩)=wDone::[Lib.itoa (numS (rest.headD []))]:=by simp [wordsS,wordsL,mkS]
      rw [e,← this]
    · rw [if_neg ht] at h
      by_cases hx:rest.tail.headD []=[]
      · rw [if_pos hx] at h; cases h
      · rw [if_neg hx] at h
        simp only [Option.some.injEq,Prod.mk.injEq] at h; obtain ⟨rfl,h2⟩:=h
        have hf:=(ge hs).1.2.2.2.1
        unfold fitP at hf
        have e:∀ tx:Str,tx≠[]→∀ n,wordsS (mkS ⟨5,[],[],n,0,tx,zeroD⟩)=[wDone,Lib.itoa n,tx]:=fun tx hx n => by simp [wordsS,wordsL,mkS,hx]
        rw [e _ hx]
        cases rest with
        | nil => exact absurd rfl ht
        | cons a r => cases r with
          | nil => exact absurd rfl ht
          | cons b r =>
            simp only [List.tail_cons] at h2; subst h2
            simp only [List.headD_cons,List.tail_cons] at hf ⊢
            rw [numS_back (by omega)]
  rw [if_neg c6] at h
  by_cases c7:first=wFail
  · rw [if_pos c7] at h
    simp only [Option.some.injEq,Prod.mk.injEq] at h; obtain ⟨rfl,ht⟩:=h; subst c7
    have hf:=(ge hs).1.2.2.2.1
    unfold fitP at hf
    have:=one (w:=rest) (by simp only at hf; omega) ht
    have e:wordsS (mkS ⟨6,[],[],numS (rest.headD []),0,[],zeroD⟩)=wFail::[Lib.itoa (numS (rest.headD []))]:=by simp [wordsS,wordsL,mkS]
    rw [e,← this]
  rw [if_neg c7] at h
  by_cases c8:first=wCancel
  · rw [if_pos c8] at h
    simp only [Option.some.injEq,Prod.mk.injEq] at h; obtain ⟨rfl,ht⟩:=h; subst c8
    have hw:=(ge hs).2
    simp [wordsOk] at hw
    have:=name1 (w:=rest) (by simpa using hw) ht
    have e:wordsS (mkS ⟨7,rest.headD [],[],0,0,[],zeroD⟩)=wCancel::[rest.headD []]:=by simp [wordsS,wordsL,mkS]
    rw [e,← this]
  rw [if_neg c8] at h
  by_cases c9:first=wTick
  · rw [if_pos c9] at h
    simp only [Option.some.injEq,Prod.mk.injEq] at h; obtain ⟨rfl,ht⟩:=h; subst c9
    have hf:=(ge hs).1.2.2.2.1
    unfold fitP at hf
    have:=one (w:=rest) (by simp only at hf; omega) ht
    have e:wordsS (mkS ⟨8,[],[],0,numS (rest.headD []),[],zeroD⟩)=wTick::[Lib.itoa (numS (rest.headD []))]:=by simp [wordsS,wordsL,mkS]
    rw [e,← this]
  rw [if_neg c9] at h
  by_cases c10:first=wState
  · rw [if_pos c10] at h
    simp only [Option.some.injEq,Prod.mk.injEq] at h; obtain ⟨rfl,ht⟩:=h; subst c10
    have hw:=(ge hs).2
    simp [wordsOk] at hw
    have:=name1 (w:=rest) (by simpa using hw) ht
    have e:wordsS (mkS ⟨9,rest.headD [],[],0,0,[],zeroD⟩)=wState::[rest.headD []]:=by simp [wordsS,wordsL,mkS]
    rw [e,← this]
  rw [if_neg c10] at h
  by_cases c11:first=wSync
  · rw [if_pos c11] at h
    simp only [Option.some.injEq,Prod.mk.injEq] at h; obtain ⟨rfl,rfl⟩:=h; subst c11; simp [wordsS,wordsL,mkS]
  rw [if_neg c11] at h
  cases h
theorem parse_iff (text:Str) (y:Stp):parseS text=(y,true)↔lineC y text:=by
  constructor
  · intro h
    unfold parseS at h
    split at h
    · simp at h
    · rename_i x left hr
      simp only [Prod.mk.injEq,Bool.and_eq_true,decide_eq_true_eq] at h
      obtain ⟨rfl,rfl,hs⟩:=h
      refine ⟨hs, ?_⟩
      rw [raw_back hr hs,join_split]
  · intro h
    have:=(both y h.1).1
    unfold parseS
    rw [split_line h,this]
    simp [h.1]
theorem ref_iff (text:Str) (y:Stp):(readR (splitC 32 text)=(y,true)∧stpB y=true∧Lib.join (wordsS y) [32]=text)↔lineC y text:=by
  constructor
  · rintro ⟨_,h1,h2⟩; exact ⟨h1,h2⟩
  · intro h
    exact ⟨by rw [split_line h]; exact (both y h.1).2,h.1,h.2⟩
section
set_option maxRecDepth 100000
def ren_itoa:Go.Shelf.Ren:=⟨fun x => match x with | 171 => 27 | 243 => 45 | 246 => 60 | 283 => 85 | 284 => 86 | 285 => 87 | 286 => 88 | 129 => 115 | 317 => 114 | 318 => 116 | 319 => 117 | 320 => 118 | 337 => 131 | 338 => 132 | n => n,fun x => match x with | 3 => 3 | 9 => 9 | 2 => 2 | 4 => 4 | 171 => 109 | 0 => 0 | 53 => 110 | 37 => 60 | 5 => 5 | 173 => 113 | 212 => 144 | 51 => 126 | 20 => 20 | 213 => 145 | 46 => 98 | 232 => 161 | 233 => 162 | n => n,fun x => match x with | 17 => 3 | 18 => 6 | 19 => 7 | n => n⟩
theorem lays_itoa:LaysM.n171 Tryz.prog ren_itoa where
  mixed:=by kernel_rfl
  f129:=Tryz.func115.trans (congrArg some (by kernel_rfl))
  f171:=Tryz.func27.trans (congrArg some (by kernel_rfl))
  f243:=Tryz.func45.trans (congrArg some (by kernel_rfl))
  f246:=Tryz.func60.trans (congrArg some (by kernel_rfl))
  f283:=Tryz.func85.trans (congrArg some (by kernel_rfl))
  f284:=Tryz.func86.trans (congrArg some (by kernel_rfl))
  f285:=Tryz.func87.trans (congrArg some (by kernel_rfl))
  f286:=Tryz.func88.trans (congrArg some (by kernel_rfl))
  f317:=Tryz.func114.trans (congrArg some (by kernel_rfl))
  f318:=Tryz.func116.trans (congrArg some (by kernel_rfl))
  f319:=Tryz.func117.trans (congrArg some (by kernel_rfl))
  f320:=Tryz.func118.trans (congrArg some (by kernel_rfl))
  f337:=Tryz.func131.trans (congrArg some (by kernel_rfl))
  f338:=Tryz.func132.trans (congrArg some (by kernel_rfl))
  t0:=Tryz.underlying0
  a0:=Tryz.isAgg0
  z0:=Tryz.sizeOf0
  v0:=Tryz.zeroValue0
  t2:=Tryz.underlying2
  a2:=Tryz.isAgg2
  z2:=Tryz.sizeOf2
  v2:=Tryz.zeroValue2
  t3:=Tryz.underlying3
  a3:=Tryz.isAgg3
  z3:=Tryz.sizeOf3
  v3:=Tryz.zeroValue3
  t4:=Tryz.underlying4
  a4:=Tryz.isAgg4
  z4:=Tryz.sizeOf4
  v4:=Tryz.zeroValue4
  t5:=Tryz.underlying5
  a5:=Tryz.isAgg5
  z5:=Tryz.sizeOf5
  v5:=Tryz.zeroValue5
  t9:=Tryz.underlying9
  a9:=Tryz.isAgg9
  z9:=Tryz.sizeOf9
  v9:=Tryz.zeroValue9
  t20:=Tryz.underlying20
  a20:=Tryz.isAgg20
  z20:=Tryz.sizeOf20
  v20:=Tryz.zeroValue20
  t37:=Tryz.underlying60
  a37:=Tryz.isAgg60
  z37:=Tryz.sizeOf60
  v37:=Tryz.zeroValue60
  t46:=Tryz.underlying98
  a46:=Tryz.isAgg98
  z46:=Tryz.sizeOf98
  v46:=Tryz.zeroValue98
  t51:=Tryz.underlying126
  a51:=Tryz.isAgg126
  z51:=Tryz.sizeOf126
  v51:=Tryz.zeroValue126
  t53:=Tryz.underlying110
  a53:=Tryz.isAgg110
  z53:=Tryz.sizeOf110
  v53:=Tryz.zeroValue110
  t171:=Tryz.underlying109
  a171:=Tryz.isAgg109
  z171:=Tryz.sizeOf109
  v171:=Tryz.zeroValue109
  t173:=Tryz.underlying113
  a173:=Tryz.isAgg113
  z173:=Tryz.sizeOf113
  v173:=Tryz.zeroValue113
  t212:=Tryz.underlying144
  a212:=Tryz.isAgg144
  z212:=Tryz.sizeOf144
  v212:=Tryz.zeroValue144
  t213:=Tryz.underlying145
  a213:=Tryz.isAgg145
  z213:=Tryz.sizeOf145
  t232:=Tryz.underlying161
  a232:=Tryz.isAgg161
  z232:=Tryz.sizeOf161
  v232:=Tryz.zeroValue161
  t233:=Tryz.underlying162
  a233:=Tryz.isAgg162
  z233:=Tryz.sizeOf162
  v233:=Tryz.zeroValue162
  g17:=by kernel_rfl
  g18:=by kernel_rfl
  g19:=by kernel_rfl
  i0:=by kernel_rfl
  i2:=by kernel_rfl
  i3:=by kernel_rfl
  i4:=by kernel_rfl
  i5:=by kernel_rfl
  i9:=by kernel_rfl
  i20:=by kernel_rfl
  i37:=by kernel_rfl
  i46:=by kernel_rfl
  i51:=by kernel_rfl
  i53:=by kernel_rfl
  i171:=by kernel_rfl
  i173:=by kernel_rfl
  i212:=by kernel_rfl
  i232:=by kernel_rfl
  i233:=by kernel_rfl
  m17:=by kernel_rfl
  m18:=by kernel_rfl
  m19:=by kernel_rfl
end
section
open Go Go.RowKit
theorem itoa_p {P:Program} {ρ:Shelf.Ren} (L:LaysM.n171 P ρ) (hb:HasBody P (ρ.f 171)) {gi:Nat} (hg:P.globalNamed "internal/strconv.uint64pow10"=some gi) (hin:(gi,fun cs => cs=Lib.pow10Tab.map fun z => Value.int .u64 z)∈theTabs) (n:Int) (h0:-9223372036854775808≤n) (h1:n≤9223372036854775807) :
    PCall P (ρ.f 171) [.int .i64 n] (.str (Lib.itoa n)):=by
  refine .of_below hb fun g m w xs hs hx => ?_
  simp only [RC,R] at hx
  obtain ⟨y,ys,e1,rfl,rfl⟩:=hx
  obtain rfl:xs=#[.int .i64 n]:=by apply Array.ext'; simpa using e1
  obtain ⟨cs,hF,hcs⟩:=hs.tab _ hin
  simp only at hF hcs
  subst hcs
  obtain ⟨e,fr,hh⟩:=hs.fro _ _ hF
  have ht:Lib.TabIs P w "internal/strconv.uint64pow10" .u64 Lib.pow10Tab:=by
    unfold Lib.TabIs World.var?
    rw [hg]
    simp only [Option.bind_some,hh]
  refine (Any.strconv_Itoa L n h0 h1 w ht).mono ?_
  rintro e w' ⟨rfl,k,os,rfl⟩
  exact ⟨_,rfl,by simp [R],⟨rfl,rfl,rfl,by show w.heap.size≤(w.heap++os).size; rw [Array.size_append]; omega,fun j hj => by show (w.heap++os)[j]?=_; rw [Array.getElem?_append_left hj]⟩⟩
theorem p_itoa (n:Int) (h:-9223372036854775808≤n∧n≤9223372036854775807):PCall Tryz.prog 27 [.int .i64 n] (.str (Lib.itoa n)) :=
  itoa_p (P:=Tryz.prog) (ρ:=ren_itoa) lays_itoa ⟨Tryz.f27,Tryz.func27,rfl,by kernel_rfl⟩ (gi:=3) (by kernel_rfl) (by repeat (first | exact List.mem_cons_self | apply List.mem_cons_of_mem)) n h.1 h.2
end
def V.flat:V→Bool
  | .bool _ | .int _ _ | .str _ => true
  | _ => false
theorem R.flat {g g':G} {v:V} {x:Value} (h:v.flat=true) (r:R g v x):R g' v x:=by
  cases v<;>simp [V.flat] at h<;>simpa only [R] using r
theorem RS.still {g:G} {m:Hm} {w w':World} (h:RS g m w) (hz:w.heap.size≤w'.heap.size) (hb:∀ b,b < w.heap.size→w'.heap[b]?=w.heap[b]?):RS g m w' :=
  ⟨fun b cs k => by
    obtain ⟨e,fr,h1⟩:=h.fro b cs k
    exact ⟨e,fr,(hb b (Array.getElem?_eq_some_iff.1 h1).1).trans h1⟩,
   fun id ob k => (h.live id ob k).keep (.refl g) fun b s n hb' => ⟨hb b ((h.live id ob k).lt hb'),(h.live id ob k).unF hb'⟩,h.inj,h.tab⟩
def snapL (m:Hm):List V→Option (List V)
  | [] => some []
  | v::vs => match snapF m v with | some u => (match snapL m vs with | some us => some (u::us) | none => none) | none => none
theorem snapL_c {m:Hm} {v u:V} {vs us:List V} (h1:snapF m v=some u) (h2:snapL m vs=some us):snapL m (v::vs)=some (u::us):=by simp [snapL,h1,h2]
theorem snapL_n {m:Hm}:snapL m []=some []:=rfl
theorem snapF_of {m:Hm} {v u:V} (h:snap 4 m v=some u):snapF m v=some u:=by simp [snapF,h]
theorem PCall.frzA {P:Program} {f:Nat} {us vs:List V} {r:V} (h:PCall P f vs r) {H:Hp} {fp:List Nat} (hv:snapL (only fp H.m) us=some vs):ACall P f us H fp r (fp.map fun i => (i,none)) 0:=by
  refine ⟨h.1,fun p hp => .inl (by obtain ⟨i,hi,rfl⟩:=List.mem_map.1 hp; exact hi),fun m g w xs hag _ hs hx => ?_⟩
  have e0:only fp m=only fp H.m:=by
    funext id
    simp only [only]
    split
    · rename_i hid; exact hag id hid
    · rfl
  rw [← e0] at hv
  obtain ⟨F',p1,p2,p3,p4⟩:=freezeSome hs fp
  have j1:∀ {us vs:List V} {xs:List Value},snapL (only fp m) us=some vs→RC g us xs→RC ⟨g.ι,F'⟩ vs xs:=by
    intro us
    induction us with
    | nil => intro vs xs hv hx; simp [snapL] at hv; subst hv; simpa only [RC] using hx
    | cons u us ih =>
      intro vs xs hv hx
      simp only [snapL] at hv
      split at hv
      · rename_i u' hu
        split at hv
        · rename_i us' hus
          simp at hv; subst hv
          simp only [RC] at hx ⊢
          obtain ⟨y,ys,rfl,r1,r2⟩:=hx
          exact ⟨y,ys,rfl,snapF_sound (g:=g) (g':=⟨g.ι,F'⟩) (hs.only fp) p1 p4 hu r1,ih hus r2⟩
        · cases hv
      · cases hv
  have hle:g.le ⟨g.ι,F'⟩:=⟨fun _ _ k => k,p1⟩
  have hsub:∀ id o,without fp m id=some o→m id=some o:=fun id o k => by simp only [without] at k; split at k; cases k; exact k
  have hxt:Ext g m w ⟨g.ι,F'⟩ (without fp m) w :=
    ⟨Nat.le_refl _,fun _ _ _ => rfl,hle,fun b ⟨id,o,s,n,k1,k2⟩ => .inr ⟨id,o,s,n,hsub _ _ k1,k2⟩,fun b cs k => (p2 b cs k).imp (fun h => h) .inr,rfl,rfl,rfl⟩
  have hm:appd (fp.map fun i => (i,none)) m=without fp m:=by
    have:∀ (fp:List Nat) (m:Hm),appd (fp.map fun i => (i,none)) m=without fp m:=by
      intro fp
      induction fp with
      | nil => intro m; funext i; simp [appd,without]
      | cons a fp ih =>
        intro m
        simp only [List.map_cons,appd]
        rw [ih]
        funext i
        simp only [without,upd,List.mem_cons]
        by_cases h1:i∈fp<;>by_cases h2:i=a<;>simp [h1,h2]
    exact this fp m
  refine (h.2 (without fp m) ⟨g.ι,F'⟩ w xs p3 (j1 hv hx)).mono ?_
  rintro e w' ⟨x,F2,k1,k2,k3,k4⟩
  rw [hm]
  exact ⟨x,⟨g.ι,F2⟩,k1,k2,k3,fun _ _ => rfl,hxt.trans k4⟩
theorem PCall.own1 {P:Program} {f id sz len:Nat} {l:List V} {r:V} {H:Hp} (h:PCall P f [.fsl .loose sz l] r) (hm:H.m id=some (.arr sz l)) (hc:closedL l=true) (hl:len=l.length):ACall P f [.sl id 0 len] H [id] r [(id,none)] 0 :=
  h.frzA (fp:=[id]) (snapL_c (snapF_of (snap_sl (by simp [only,hm]) hc hl)) snapL_n)
def Bfo (H:Hp) (sz:Nat) (v:V) (l:List V):Prop :=
  (∃ st,(st≠.loose∧st≠.nn)∧v=.fsl st sz l)∨∃ id,id < H.n∧v=.sl id 0 l.length∧H.m id=some (.arr sz l)
theorem app_bfo {H:Hp} {sz bt:Nat} {v y:V} {l ys:List V} {K:KI} (h:Bfo H sz v l) (hy:Ev.rd H.m y=some (sz,ys)) (hne:ys≠[]) (hl:(l.length+ys.length)*bt≤140737488355328)
    (k:∀ v' fp ds,Bfo ⟨H.n+1,appd ds H.m⟩ sz v' (l++ys)→(∀ id,id < H.n→(∀ o n,v≠.sl id o n)→appd ds H.m id=H.m id)→K v' fp ds 1):fin (appO H sz bt v y) K:=by
  have e:(l++ys).length=l.length+ys.length:=List.length_append
  unfold appO
  rw [rdA_of hy]
  rcases h with ⟨st,h0,rfl⟩ | ⟨id,h1,rfl,h2⟩
  · cases ys with
    | nil => exact absurd rfl hne
    | cons a ys =>
      refine ⟨⟨rfl,rfl,h0,by simpa using hl⟩,k _ _ _ (.inr ⟨H.n,by simp,by simp,by simp [appd,upd]⟩) fun id hid _ => ?_⟩
      have:id≠H.n:=by omega
      simp [appd,upd,this]
  · simp only [h2]
    refine ⟨⟨trivial,trivial,trivial,Nat.le_refl _,hl⟩,k _ _ _ (.inr ⟨H.n,by simp,by simp,by simp [appd,upd]⟩) fun i hid hv => ?_⟩
    have h3:i≠H.n:=by omega
    have h4:i≠id:=fun e => hv 0 l.length (by rw [e])
    simp [appd,upd,h3,h4]
theorem Bfo.frz {H:Hp} {sz:Nat} {v:V} {l:List V} (h:Bfo H sz v l) (hc:closedL l=true):∃ fz st,frzV fz H.m v=.fsl st sz l:=by
  rcases h with ⟨st,h0,rfl⟩ | ⟨id,h1,rfl,h2⟩
  · exact ⟨[],st,frz_f hc⟩
  · exact ⟨[id],.loose,by rw [frz_sl h2 (by simp) (by simp) hc]; simp⟩
theorem Bfo.keep {H:Hp} {n':Nat} {m':Hm} {sz:Nat} {v:V} {l:List V} (h:Bfo H sz v l) (hn:H.n≤n') (hm:∀ id,id < H.n→m' id=H.m id):Bfo ⟨n',m'⟩ sz v l:=by
  rcases h with h | ⟨id,h1,h2,h3⟩
  · exact .inl h
  · exact .inr ⟨id,Nat.lt_of_lt_of_le h1 hn,h2,(hm id h1).trans h3⟩
theorem vS_len' (l:List Str):(vS l).length=l.length:=mv_len
theorem numW_len (l:List Int):(numW l).length=l.length:=by simp [numW]
theorem numW_in {l:List Int} (h:∀ x∈l,i64 x):∀ w∈numW l,w.length≤20:=by
  intro w hw
  obtain ⟨x,hx,rfl⟩:=List.mem_map.1 hw
  exact itoa_len (h x hx)
theorem p_numbers (st:St) (l:List Int) (hl:∀ x∈l,i64 x) (hn:l.length≤1000000):PCall Tryz.prog 46 [.fsl st 1 (vI l)] (.fsl .loose 1 (vS (numW l))):=by
  refine en46 (by simp) (by simp [closedL,V.closed,vI_closed]) ?_
  simp (maxSteps:=1000000) (disch:=omega) only [rg,gD,simprocAttr,c46,vI_len]
  refine x_it l.length (fun i σ H => ∃ v,Bfo H 1 v (vS (numW (l.take i)))∧σ=[(3,v),(6,.fsl st 1 (vI l)),(7,.int .i64 l.length),(8,.int .i64 i)]) ⟨_,.inl ⟨.nil,by decide,rfl⟩,rfl⟩ ?_
  rintro T i σ ⟨n,m⟩ hi ⟨v,hb,rfl⟩ hN hX hR
  simp (maxSteps:=1000000) (disch:=omega) only [rg,gD,simprocAttr]
  refine ⟨fun h => ?_,fun h => ?_⟩
  · have i1:i < l.length:=by omega
    have hx:=hl l[i] (List.getElem_mem i1)
    have e1:vS (numW (l.take i))++[.str (Lib.itoa l[i])]=vS (numW (l.take (i+1))):=by
      rw [List.take_succ_eq_append_getElem i1]
      show _=mv V.str ((l.take i++[l[i]]).map Lib.itoa)
      rw [List.map_append,mv,List.map_append]; rfl
    simp (maxSteps:=1000000) (disch:=omega) only [rg,gD,simprocAttr,vI_get]
    refine ⟨_,p_itoa _ hx, ?_⟩
    simp (maxSteps:=1000000) (disch:=omega) only [rg,gD,simprocAttr]
    refine app_bfo hb (ys:=[.str (Lib.itoa l[i])]) rfl (by simp) (by rw [vS_len',numW_len,List.length_take]; simp; omega) fun v' fp ds hb' _ => ?_
    rw [e1] at hb'
    simp (maxSteps:=1000000) (disch:=omega) only [rg,gD,simprocAttr]
    exact hN _ _ i1 ⟨v',hb',rfl⟩
  · obtain rfl:i=l.length:=by omega
    rw [List.take_length] at hb
    refine hX _ _ _ ?_
    simp (maxSteps:=1000000) (disch:=omega) only [rg,gD,simprocAttr]
    obtain ⟨fz,st',hz⟩:=hb.frz vS_closed
    refine x_frz fz ?_
    simp (maxSteps:=1000000) (disch:=omega) only [rg,gD,simprocAttr,hz]
    (refine fin_x rfl ?_ ?_<;>simp [pack,lo,loL,V.closed,closedL,mv_closed,vS_lo,vS_closed])
theorem p_line (st:St) (ws:List Str) (hN:ws.length≤1000000) (hl:(Lib.join ws [32]).length≤1000000000):PCall Tryz.prog 26 [.fsl st 1 (vS ws)] (.str (lineW ws)):=by
  refine en26 (by simp) (by simp [closedL,V.closed,vS_closed]) ?_
  simp (maxSteps:=1000000) (disch:=omega) only [rg,gD,simprocAttr,c26]
  refine ⟨_,code_join st ws [32] (by omega) (by omega), ?_⟩
  simp (maxSteps:=1000000) (disch:=omega) only [rg,gD,simprocAttr]
  refine ⟨by first | omega | (simp; omega), ?_⟩
  (refine fin_x rfl ?_ ?_<;>simp [pack,lo,loL,V.closed,closedL,mv_closed,lineW])
section
set_option maxRecDepth 100000
def ren_cut:Go.Shelf.Ren:=⟨fun x => match x with | 145 => 12 | 220 => 33 | 219 => 52 | 217 => 65 | 225 => 66 | 224 => 67 | 267 => 68 | 266 => 99 | 314 => 100 | n => n,fun x => match x with | 9 => 9 | 4 => 4 | 59 => 35 | 3 => 3 | 5 => 5 | 46 => 98 | 146 => 127 | 51 => 126 | n => n,fun x => match x with | 1 => 0 | n => n⟩
theorem lays_cut:Lays.n145 Tryz.prog ren_cut where
  mixed:=by kernel_rfl
  f145:=Tryz.func12.trans (congrArg some (by kernel_rfl))
  f217:=Tryz.func65.trans (congrArg some (by kernel_rfl))
  f219:=Tryz.func52.trans (congrArg some (by kernel_rfl))
  f220:=Tryz.func33.trans (congrArg some (by kernel_rfl))
  f224:=Tryz.func67.trans (congrArg some (by kernel_rfl))
  f225:=Tryz.func66.trans (congrArg some (by kernel_rfl))
  f266:=Tryz.func99.trans (congrArg some (by kernel_rfl))
  f267:=Tryz.func68.trans (congrArg some (by kernel_rfl))
  f314:=Tryz.func100.trans (congrArg some (by kernel_rfl))
  t3:=Tryz.underlying3
  a3:=Tryz.isAgg3
  z3:=Tryz.sizeOf3
  v3:=Tryz.zeroValue3
  t4:=Tryz.underlying4
  a4:=Tryz.isAgg4
  z4:=Tryz.sizeOf4
  v4:=Tryz.zeroValue4
  t5:=Tryz.underlying5
  a5:=Tryz.isAgg5
  z5:=Tryz.sizeOf5
  v5:=Tryz.zeroValue5
  t9:=Tryz.underlying9
  a9:=Tryz.isAgg9
  z9:=Tryz.sizeOf9
  v9:=Tryz.zeroValue9
  t46:=Tryz.underlying98
  a46:=Tryz.isAgg98
  z46:=Tryz.sizeOf98
  v46:=Tryz.zeroValue98
  t51:=Tryz.underlying126
  a51:=Tryz.isAgg126
  z51:=Tryz.sizeOf126
  v51:=Tryz.zeroValue126
  t59:=Tryz.underlying35
  a59:=Tryz.isAgg35
  z59:=Tryz.sizeOf35
  v59:=Tryz.zeroValue35
  t146:=Tryz.underlying127
  a146:=Tryz.isAgg127
  z146:=Tryz.sizeOf127
  v146:=Tryz.zeroValue127
  g1:=by kernel_rfl
end
section
set_option maxRecDepth 100000
def ren_split:Go.Shelf.Ren:=⟨fun x => match x with | 146 => 35 | 221 => 55 | 268 => 74 | 138 => 75 | 143 => 76 | 195 => 104 | 197 => 105 | 218 => 106 | 219 => 52 | 260 => 128 | 217 => 65 | 225 => 66 | 224 => 67 | 267 => 68 | 266 => 99 | 314 => 100 | n => n,fun x => match x with | 9 => 9 | 31 => 52 | 3 => 3 | 4 => 4 | 0 => 0 | 105 => 134 | 21 => 21 | 5 => 5 | 46 => 98 | 119 => 157 | 139 => 160 | 138 => 159 | 146 => 127 | 51 => 126 | n => n,fun x => match x with | 1 => 0 | 3 => 4 | 4 => 5 | n => n⟩
theorem lays_split:Lays.n146 Tryz.prog ren_split where
  mixed:=by kernel_rfl
  f138:=Tryz.func75.trans (congrArg some (by kernel_rfl))
  f143:=Tryz.func76.trans (congrArg some (by kernel_rfl))
  f146:=Tryz.func35.trans (congrArg some (by kernel_rfl))
  f195:=Tryz.func104.trans (congrArg some (by kernel_rfl))
  f197:=Tryz.func105.trans (congrArg some (by kernel_rfl))
  f217:=Tryz.func65.trans (congrArg some (by kernel_rfl))
  f218:=Tryz.func106.trans (congrArg some (by kernel_rfl))
  f219:=Tryz.func52.trans (congrArg some (by kernel_rfl))
  f221:=Tryz.func55.trans (congrArg some (by kernel_rfl))
  f224:=Tryz.func67.trans (congrArg some (by kernel_rfl))
  f225:=Tryz.func66.trans (congrArg some (by kernel_rfl))
  f260:=Tryz.func128.trans (congrArg some (by kernel_rfl))
  f266:=Tryz.func99.trans (congrArg some (by kernel_rfl))
  f267:=Tryz.func68.trans (congrArg some (by kernel_rfl))
  f268:=Tryz.func74.trans (congrArg some (by kernel_rfl))
  f314:=Tryz.func100.trans (congrArg some (by kernel_rfl))
  t0:=Tryz.underlying0
  a0:=Tryz.isAgg0
  z0:=Tryz.sizeOf0
  v0:=Tryz.zeroValue0
  t3:=Tryz.underlying3
  a3:=Tryz.isAgg3
  z3:=Tryz.sizeOf3
  v3:=Tryz.zeroValue3
  t4:=Tryz.underlying4
  a4:=Tryz.isAgg4
  z4:=Tryz.sizeOf4
  v4:=Tryz.zeroValue4
  t5:=Tryz.underlying5
  a5:=Tryz.isAgg5
  z5:=Tryz.sizeOf5
  v5:=Tryz.zeroValue5
  t9:=Tryz.underlying9
  a9:=Tryz.isAgg9
  z9:=Tryz.sizeOf9
  v9:=Tryz.zeroValue9
  t21:=Tryz.underlying21
  a21:=Tryz.isAgg21
  z21:=Tryz.sizeOf21
  v21:=Tryz.zeroValue21
  t31:=Tryz.underlying52
  a31:=Tryz.isAgg52
  z31:=Tryz.sizeOf52
  v31:=Tryz.zeroValue52
  t46:=Tryz.underlying98
  a46:=Tryz.isAgg98
  z46:=Tryz.sizeOf98
  v46:=Tryz.zeroValue98
  t51:=Tryz.underlying126
  a51:=Tryz.isAgg126
  z51:=Tryz.sizeOf126
  v51:=Tryz.zeroValue126
  t105:=Tryz.underlying134
  a105:=Tryz.isAgg134
  z105:=Tryz.sizeOf134
  v105:=Tryz.zeroValue134
  t119:=Tryz.underlying157
  a119:=Tryz.isAgg157
  z119:=Tryz.sizeOf157
  t138:=Tryz.underlying159
  a138:=Tryz.isAgg159
  z138:=Tryz.sizeOf159
  v138:=Tryz.zeroValue159
  t139:=Tryz.underlying160
  a139:=Tryz.isAgg160
  z139:=Tryz.sizeOf160
  v139:=Tryz.zeroValue160
  t146:=Tryz.underlying127
  a146:=Tryz.isAgg127
  z146:=Tryz.sizeOf127
  v146:=Tryz.zeroValue127
  g1:=by kernel_rfl
  g3:=by kernel_rfl
  g4:=by kernel_rfl
end
section
set_option maxRecDepth 100000
def ren_atoi:Go.Shelf.Ren:=⟨fun x => match x with | 172 => 34 | 244 => 53 | 245 => 54 | 247 => 69 | 279 => 70 | 280 => 71 | 281 => 72 | 282 => 73 | 287 => 101 | 316 => 102 | 171 => 27 | 205 => 103 | 321 => 126 | 322 => 127 | 243 => 45 | 246 => 60 | 283 => 85 | 284 => 86 | 285 => 87 | 286 => 88 | 129 => 115 | 317 => 114 | 318 => 116 | 319 => 117 | 320 => 118 | 337 => 131 | 338 => 132 | n => n,fun x => match x with | 9 => 9 | 3 => 3 | 75 => 64 | 76 => 65 | 4 => 4 | 5 => 5 | 167 => 99 | 37 => 60 | 0 => 0 | 85 => 100 | 2 => 2 | 168 => 102 | 53 => 110 | 175 => 129 | 46 => 98 | 210 => 132 | 127 => 82 | 145 => 153 | 143 => 151 | 21 => 21 | 171 => 109 | 173 => 113 | 212 => 144 | 51 => 126 | 20 => 20 | 213 => 145 | 232 => 161 | 233 => 162 | 80 => 69 | n => n,fun x => match x with | 15 => 1 | 16 => 2 | 17 => 3 | 18 => 6 | 19 => 7 | n => n⟩
theorem lays_atoi:LaysC.n172 Tryz.prog ren_atoi where
  mixed:=by kernel_rfl
  f129:=Tryz.func115.trans (congrArg some (by kernel_rfl))
  f171:=Tryz.func27.trans (congrArg some (by kernel_rfl))
  f172:=Tryz.func34.trans (congrArg some (by kernel_rfl))
  f205:=Tryz.func103.trans (congrArg some (by kernel_rfl))
  f243:=Tryz.func45.trans (congrArg some (by kernel_rfl))
  f244:=Tryz.func53.trans (congrArg some (by kernel_rfl))
  f245:=Tryz.func54.trans (congrArg some (by kernel_rfl))
  f246:=Tryz.func60.trans (congrArg some (by kernel_rfl))
  f247:=Tryz.func69.trans (congrArg some (by kernel_rfl))
  f279:=Tryz.func70.trans (congrArg some (by kernel_rfl))
  f280:=Tryz.func71.trans (congrArg some (by kernel_rfl))
  f281:=Tryz.func72.trans (congrArg some (by kernel_rfl))
  f282:=Tryz.func73.trans (congrArg some (by kernel_rfl))
  f283:=Tryz.func85.trans (congrArg some (by kernel_rfl))
  f284:=Tryz.func86.trans (congrArg some (by kernel_rfl))
  f285:=Tryz.func87.trans (congrArg some (by kernel_rfl))
  f286:=Tryz.func88.trans (congrArg some (by kernel_rfl))
  f287:=Tryz.func101.trans (congrArg some (by kernel_rfl))
  f316:=Tryz.func102.trans (congrArg some (by kernel_rfl))
  f317:=Tryz.func114.trans (congrArg some (by kernel_rfl))
  f318:=Tryz.func116.trans (congrArg some (by kernel_rfl))
  f319:=Tryz.func117.trans (congrArg some (by kernel_rfl))
  f320:=Tryz.func118.trans (congrArg some (by kernel_rfl))
  f321:=Tryz.func126.trans (congrArg some (by kernel_rfl))
  f322:=Tryz.func127.trans (congrArg some (by kernel_rfl))
  f337:=Tryz.func131.trans (congrArg some (by kernel_rfl))
  f338:=Tryz.func132.trans (congrArg some (by kernel_rfl))
  t0:=Tryz.underlying0
  a0:=Tryz.isAgg0
  z0:=Tryz.sizeOf0
  v0:=Tryz.zeroValue0
  t2:=Tryz.underlying2
  a2:=Tryz.isAgg2
  z2:=Tryz.sizeOf2
  v2:=Tryz.zeroValue2
  t3:=Tryz.underlying3
  a3:=Tryz.isAgg3
  z3:=Tryz.sizeOf3
  v3:=Tryz.zeroValue3
  t4:=Tryz.underlying4
  a4:=Tryz.isAgg4
  z4:=Tryz.sizeOf4
  v4:=Tryz.zeroValue4
  t5:=Tryz.underlying5
  a5:=Tryz.isAgg5
  z5:=Tryz.sizeOf5
  v5:=Tryz.zeroValue5
  t9:=Tryz.underlying9
  a9:=Tryz.isAgg9
  z9:=Tryz.sizeOf9
  v9:=Tryz.zeroValue9
  t20:=Tryz.underlying20
  a20:=Tryz.isAgg20
  z20:=Tryz.sizeOf20
  v20:=Tryz.zeroValue20
  t21:=Tryz.underlying21
  a21:=Tryz.isAgg21
  z21:=Tryz.sizeOf21
  v21:=Tryz.zeroValue21
  t37:=Tryz.underlying60
  a37:=Tryz.isAgg60
  z37:=Tryz.sizeOf60
  v37:=Tryz.zeroValue60
  t46:=Tryz.underlying98
  a46:=Tryz.isAgg98
  z46:=Tryz.sizeOf98
  v46:=Tryz.zeroValue98
  t51:=Tryz.underlying126
  a51:=Tryz.isAgg126
  z51:=Tryz.sizeOf126
  v51:=Tryz.zeroValue126
  t53:=Tryz.underlying110
  a53:=Tryz.isAgg110
  z53:=Tryz.sizeOf110
  v53:=Tryz.zeroValue110
  t75:=Tryz.underlying64
  a75:=Tryz.isAgg64
  z75:=Tryz.sizeOf64
  v75:=Tryz.zeroValue64
  t76:=Tryz.underlying65
  a76:=Tryz.isAgg65
  z76:=Tryz.sizeOf65
  v76:=Tryz.zeroValue65
  t85:=Tryz.underlying100
  a85:=Tryz.isAgg100
  z85:=Tryz.sizeOf100
  v85:=Tryz.zeroValue100
  t127:=Tryz.underlying82
  a127:=Tryz.isAgg82
  z127:=Tryz.sizeOf82
  v127:=Tryz.zeroValue82
  t143:=Tryz.underlying151
  a143:=Tryz.isAgg151
  z143:=Tryz.sizeOf151
  v143:=Tryz.zeroValue151
  t145:=Tryz.underlying153
  a145:=Tryz.isAgg153
  z145:=Tryz.sizeOf153
  v145:=Tryz.zeroValue153
  t167:=Tryz.underlying99
  a167:=Tryz.isAgg99
  z167:=Tryz.sizeOf99
  v167:=Tryz.zeroValue99
  t168:=Tryz.underlying102
  a168:=Tryz.isAgg102
  z168:=Tryz.sizeOf102
  v168:=Tryz.zeroValue102
  t171:=Tryz.underlying109
  a171:=Tryz.isAgg109
  z171:=Tryz.sizeOf109
  v171:=Tryz.zeroValue109
  t173:=Tryz.underlying113
  a173:=Tryz.isAgg113
  z173:=Tryz.sizeOf113
  v173:=Tryz.zeroValue113
  t175:=Tryz.underlying129
  a175:=Tryz.isAgg129
  z175:=Tryz.sizeOf129
  v175:=Tryz.zeroValue129
  t210:=Tryz.underlying132
  a210:=Tryz.isAgg132
  z210:=Tryz.sizeOf132
  v210:=Tryz.zeroValue132
  t212:=Tryz.underlying144
  a212:=Tryz.isAgg144
  z212:=Tryz.sizeOf144
  v212:=Tryz.zeroValue144
  t213:=Tryz.underlying145
  a213:=Tryz.isAgg145
  z213:=Tryz.sizeOf145
  t232:=Tryz.underlying161
  a232:=Tryz.isAgg161
  z232:=Tryz.sizeOf161
  v232:=Tryz.zeroValue161
  t233:=Tryz.underlying162
  a233:=Tryz.isAgg162
  z233:=Tryz.sizeOf162
  v233:=Tryz.zeroValue162
  g15:=by kernel_rfl
  g16:=by kernel_rfl
  g17:=by kernel_rfl
  g18:=by kernel_rfl
  g19:=by kernel_rfl
  t80:=Tryz.underlying69
  a80:=Tryz.isAgg69
  z80:=Tryz.sizeOf69
  v80:=Tryz.zeroValue69
  i0:=by kernel_rfl
  i2:=by kernel_rfl
  i3:=by kernel_rfl
  i4:=by kernel_rfl
  i5:=by kernel_rfl
  i9:=by kernel_rfl
  i20:=by kernel_rfl
  i21:=by kernel_rfl
  i37:=by kernel_rfl
  i46:=by kernel_rfl
  i51:=by kernel_rfl
  i53:=by kernel_rfl
  i75:=by kernel_rfl
  i76:=by kernel_rfl
  i80:=by kernel_rfl
  i85:=by kernel_rfl
  i127:=by kernel_rfl
  i143:=by kernel_rfl
  i145:=by kernel_rfl
  i167:=by kernel_rfl
  i168:=by kernel_rfl
  i171:=by kernel_rfl
  i173:=by kernel_rfl
  i175:=by kernel_rfl
  i210:=by kernel_rfl
  i212:=by kernel_rfl
  i232:=by kernel_rfl
  i233:=by kernel_rfl
  m15:=by kernel_rfl
  m16:=by kernel_rfl
  m17:=by kernel_rfl
  m18:=by kernel_rfl
  m19:=by kernel_rfl
  c0:=by kernel_rfl
  c2:=by kernel_rfl
  c3:=by kernel_rfl
  c4:=by kernel_rfl
  c5:=by kernel_rfl
  c9:=by kernel_rfl
  c20:=by kernel_rfl
  c21:=by kernel_rfl
  c37:=by kernel_rfl
  c46:=by kernel_rfl
  c51:=by kernel_rfl
  c53:=by kernel_rfl
  c75:=by kernel_rfl
  c76:=by kernel_rfl
  c80:=by kernel_rfl
  c85:=by kernel_rfl
  c127:=by kernel_rfl
  c143:=by kernel_rfl
  c145:=by kernel_rfl
  c167:=by kernel_rfl
  c168:=by kernel_rfl
  c171:=by kernel_rfl
  c173:=by kernel_rfl
  c175:=by kernel_rfl
  c210:=by kernel_rfl
  c212:=by kernel_rfl
  c213:=by kernel_rfl
  c232:=by kernel_rfl
  c233:=by kernel_rfl
end
end Go.Proofs.YtnglmdheiabdcaaGreatDoor.Ev
