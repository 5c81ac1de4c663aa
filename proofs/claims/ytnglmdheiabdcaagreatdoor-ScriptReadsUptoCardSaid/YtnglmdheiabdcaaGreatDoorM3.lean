/-
  Part 3 of what the proof of the statement ScriptReadsUpto leans on: the evaluator, the functions in compact form, and what they answer.
-/
import Derived.Test.YtnglmdheiabdcaaGreatDoorM2
import Derived.Test.YtnglmdheiabdcaaGreatDoorProg
import Derived.KernelRfl
import Derived.Shelf.Strings.OnBuilder
set_option linter.unusedSimpArgs false
set_option linter.unusedVariables false
set_option maxRecDepth 10000
namespace Go.Proofs.YtnglmdheiabdcaaGreatDoor.Ev
open Go
def c92:C :=
  (.seq
 (.reg false [p (.mov (.k (.str [])))] [(0,.v 0)])
 (.seq
 (.reg false [p (.mov (.v 0)),
 p (.call true (.k (.fn 44 [] [])) [.r 0,.k (.str [])]),
 p (.mov (.r 0))] [(2,.r 0)])
 .ret))
def r92:List RV:=[.t 2]
theorem en92:EnP Tryz.prog 92 5 c92 r92:=mkEnP (by kernel_rfl) Tryz.func92 (by kernel_rfl) ⟨_,rfl,by kernel_rfl,by kernel_rfl⟩
def c120:C :=
  (.seq
 (.reg false [p (.mov (.k (.str []))),
 p (.mov (.k (.int .i64 0)))] [(0,.v 0),(1,.v 1)])
 (.seq
 (.seq
 (.reg false [p (.mov (.v 1)),
 p (.bin .lss (.r 0) (.k (.int .i64 1))),
 p (.mov (.r 0)),
 ⟨.mov (.v 1),some (0,false),[]⟩,
 ⟨.bin .gtr (.r 0) (.k (.int .i64 6)),some (1,false),[]⟩,
 p (.pick (.r 2) (.k (.bool true)) (.r 0)),
 p (.mov (.r 0)),
 ⟨.mov (.v 0),some (0,false),[]⟩,
 ⟨.bin .lss (.r 0) (.k (.int .i64 0)),some (1,false),[]⟩,
 p (.pick (.r 2) (.k (.bool true)) (.r 0)),
 p (.mov (.r 0)),
 ⟨.mov (.v 0),some (0,false),[]⟩,
 ⟨.mov (.v 1),some (1,false),[]⟩,
 ⟨.bin .mul (.k (.int .i64 8)) (.r 0),some (2,false),[]⟩,
 ⟨.bin .shr (.r 2) (.r 0),some (3,false),[]⟩,
 ⟨.bin .neq (.r 0) (.k (.int .i64 0)),some (4,false),[]⟩,
 p (.pick (.r 5) (.k (.bool true)) (.r 0))] [(0,.v 0),(1,.v 1),(24,.r 0)])
 (.cond (.v 24)
 (.seq
 (.reg false [p (.mov (.k (.str []))),
 p (.mov (.k (.int .i64 1)))] [(4,.r 1),(5,.r 0)])
 .ret)
 .skip))
 (.seq
 (.reg false [p (.mov (.v 1)),
 p (.mks 1 1 (.int .u8 0) (.r 0)),
 p (.mov (.r 0))] [(0,.v 0),(1,.v 1),(6,.r 0)])
 (.seq
 (.seq
 (.reg false [p (.mov (.v 6)),
 p (.len false (.r 0)),
 p (.mov (.k (.int .i64 0)))] [(0,.v 0),(1,.v 1),(6,.v 6),(28,.r 1),(29,.r 0)])
 (.block 0
 (.loop
 (.seq
 (.reg false [p (.bin .lss (.v 29) (.v 28))] [(0,.v 0),(1,.v 1),(6,.v 6),(28,.v 28),(29,.v 29),(30,.r 0)])
 (.seq
 (.cond (.v 30)
 .skip
 (.exit 0))
 (.seq
 (.block 1
 (.seq
 (.reg false [p (.mov (.v 29)),
 p (.mov (.r 0))] [(0,.v 0),(1,.v 1),(6,.v 6),(7,.r 0),(28,.v 28),(29,.v 29)])
 (.reg false [p (.mov (.v 6)),
 p (.mov (.v 1)),
 p (.bin .sub (.r 0) (.k (.int .i64 1))),
 p (.mov (.v 7)),
 p (.bin .sub (.r 1) (.r 0)),
 p (.mov (.v 0)),
 p (.mov (.v 7)),
 p (.bin .mul (.k (.int .i64 8)) (.r 0)),
 p (.bin .shr (.r 2) (.r 0)),
 p (.cvt .u8 (.r 0)),
 p (.iad 1 (.r 9) (.r 5)),
 p (.store (none) (.r 0) (.r 1))] [(0,.v 0),(1,.v 1),(6,.v 6),(28,.v 28),(29,.v 29)])))
 (.reg false [p (.bin .add (.v 29) (.k (.int .i64 1))),
 p (.mov (.r 0))] [(0,.v 0),(1,.v 1),(6,.v 6),(28,.v 28),(29,.r 0)])))))))
 (.frz
 (.seq
 (.reg false [p (.mov (.v 6)),
 p (.bts (.r 0)),
 p (.mov (.r 0)),
 p (.mov (.k (.int .i64 0)))] [(4,.r 1),(5,.r 0)])
 .ret))))))
def r120:List RV:=[.t 4,.t 5]
theorem en120:EnP Tryz.prog 120 46 c120 r120:=mkEnP (by kernel_rfl) Tryz.func120 (by kernel_rfl) ⟨_,rfl,by kernel_rfl,by kernel_rfl⟩
def c121:C :=
  (.seq
 (.reg false [p (.mov (.k (.str []))),
 p (.mov (.k (.int .i64 0)))] [(0,.v 0)])
 (.seq
 (.seq
 (.reg false [p (.mov (.v 0)),
 p (.len true (.r 0)),
 p (.bin .gtr (.r 0) (.k (.int .i64 65535)))] [(0,.v 0),(8,.r 0)])
 (.cond (.v 8)
 (.seq
 (.reg false [p (.mov (.k (.str []))),
 p (.mov (.k (.int .i64 2)))] [(2,.r 1),(3,.r 0)])
 .ret)
 .skip))
 (.seq
 (.reg false [p (.mov (.v 0)),
 p (.len true (.r 0)),
 p (.call true (.k (.fn 120 [] [])) [.r 0,.k (.int .i64 2)]),
 p (.mov (.r 0)),
 p (.ext (.r 0) 0),
 p (.ext (.r 1) 1),
 p (.mov (.r 1)),
 p (.mov (.r 1))] [(0,.v 0),(4,.r 1),(5,.r 0)])
 (.seq
 (.reg false [p (.mov (.v 4)),
 p (.mov (.v 0)),
 p (.bsl 1 [.r 1,.r 0]),
 p (.call true (.k (.fn 92 [] [])) [.r 0]),
 p (.mov (.v 5)),
 p (.mov (.r 1)),
 p (.mov (.r 1))] [(2,.r 1),(3,.r 0)])
 .ret))))
def r121:List RV:=[.t 2,.t 3]
theorem en121:EnP Tryz.prog 121 20 c121 r121:=mkEnP (by kernel_rfl) Tryz.func121 (by kernel_rfl) ⟨_,rfl,by kernel_rfl,by kernel_rfl⟩
def c111:C :=
  (.seq
 (.reg false [p (.mov (.k (.str []))),
 p (.mov (.k (.int .i64 0)))] [(0,.v 0),(1,.v 1)])
 (.seq
 (.seq
 (.reg false [p (.mov (.v 1)),
 p (.bin .lss (.r 0) (.k (.int .i64 1))),
 p (.mov (.r 0)),
 ⟨.mov (.v 1),some (0,false),[]⟩,
 ⟨.bin .gtr (.r 0) (.k (.int .i64 6)),some (1,false),[]⟩,
 p (.pick (.r 2) (.k (.bool true)) (.r 0)),
 p (.mov (.r 0)),
 ⟨.mov (.v 0),some (0,false),[]⟩,
 ⟨.bin .lss (.r 0) (.k (.int .i64 0)),some (1,false),[]⟩,
 p (.pick (.r 2) (.k (.bool true)) (.r 0)),
 p (.mov (.r 0)),
 ⟨.mov (.v 0),some (0,false),[]⟩,
 ⟨.mov (.v 1),some (1,false),[]⟩,
 ⟨.call true (.k (.fn 129 [] [])) [.r 0],some (2,false),[]⟩,
 ⟨.bin .geq (.r 2) (.r 0),some (3,false),[]⟩,
 p (.pick (.r 4) (.k (.bool true)) (.r 0))] [(0,.v 0),(1,.v 1),(23,.r 0)])
 (.cond (.v 23)
 (.seq
 (.reg false [p (.mov (.k (.str []))),
 p (.mov (.k (.int .i64 1)))] [(4,.r 1),(5,.r 0)])
 .ret)
 .skip))
 (.seq
 (.reg false [p (.bsl 1 []),
 p (.mov (.r 0))] [(0,.v 0),(1,.v 1),(6,.r 0)])
 (.seq
 (.seq
 (.reg false [p (.mov (.v 1)),
 p (.bin .sub (.r 0) (.k (.int .i64 1))),
 p (.mov (.r 0))] [(0,.v 0),(6,.v 6),(7,.r 0)])
 (.block 0
 (.loop
 (.seq
 (.seq
 (.reg false [p (.mov (.v 7)),
 p (.bin .geq (.r 0) (.k (.int .i64 0)))] [(0,.v 0),(6,.v 6),(7,.v 7),(28,.r 0)])
 (.cond (.v 28)
 .skip
 (.exit 0)))
 (.seq
 (.block 1
 (.reg false [p (.mov (.v 6)),
 p (.mov (.v 0)),
 p (.mov (.v 7)),
 p (.call true (.k (.fn 129 [] [])) [.r 0]),
 p (.bin .quo (.r 2) (.r 0)),
 p (.bin .rem (.r 0) (.k (.int .i64 256))),
 p (.cvt .u8 (.r 0)),
 p (.bsl 1 [.r 0]),
 p (.app 1 1 (.r 7) (.r 0)),
 p (.mov (.r 0))] [(0,.v 0),(6,.r 0),(7,.v 7)]))
 (.reg false [p (.mov (.v 7)),
 p (.bin .sub (.r 0) (.k (.int .i64 1))),
 p (.mov (.r 0))] [(0,.v 0),(6,.v 6),(7,.r 0)]))))))
 (.frz
 (.seq
 (.reg false [p (.mov (.v 6)),
 p (.bts (.r 0)),
 p (.mov (.r 0)),
 p (.mov (.k (.int .i64 0)))] [(4,.r 1),(5,.r 0)])
 .ret))))))
def r111:List RV:=[.t 4,.t 5]
theorem en111:EnP Tryz.prog 111 42 c111 r111:=mkEnP (by kernel_rfl) Tryz.func111 (by kernel_rfl) ⟨_,rfl,by kernel_rfl,by kernel_rfl⟩
def c109:C :=
  (.seq
 (.reg false [p (.mov (.k (.str []))),
 p (.mov (.k (.int .i64 0)))] [(0,.v 0)])
 (.seq
 (.seq
 (.reg false [p (.mov (.v 0)),
 p (.len true (.r 0)),
 p (.bin .gtr (.r 0) (.k (.int .i64 65535)))] [(0,.v 0),(7,.r 0)])
 (.cond (.v 7)
 (.seq
 (.reg false [p (.mov (.k (.str []))),
 p (.mov (.k (.int .i64 2)))] [(2,.r 1),(3,.r 0)])
 .ret)
 .skip))
 (.seq
 (.reg false [p (.mov (.v 0)),
 p (.len true (.r 0)),
 p (.bin .quo (.r 0) (.k (.int .i64 256))),
 p (.cvt .u8 (.r 0)),
 p (.mov (.v 0)),
 p (.len true (.r 0)),
 p (.bin .rem (.r 0) (.k (.int .i64 256))),
 p (.cvt .u8 (.r 0)),
 p (.bsl 1 [.r 4,.r 0]),
 p (.mov (.r 0))] [(0,.v 0),(4,.r 0)])
 (.seq
 (.reg false [p (.mov (.v 4)),
 p (.bts (.r 0)),
 p (.mov (.v 0)),
 p (.bin .add (.r 1) (.r 0)),
 p (.mov (.r 0)),
 p (.mov (.k (.int .i64 0)))] [(2,.r 1),(3,.r 0)])
 .ret))))
def r109:List RV:=[.t 2,.t 3]
theorem en109:EnP Tryz.prog 109 21 c109 r109:=mkEnP (by kernel_rfl) Tryz.func109 (by kernel_rfl) ⟨_,rfl,by kernel_rfl,by kernel_rfl⟩
def c129:C :=
  (.seq
 (.reg false [p (.mov (.k (.int .i64 0)))] [(0,.v 0)])
 (.seq
 (.reg false [p (.mov (.k (.int .i64 1)))] [(0,.v 0),(3,.r 0)])
 (.seq
 (.seq
 (.reg false [p (.mov (.k (.int .i64 0)))] [(0,.v 0),(3,.v 3),(4,.r 0)])
 (.block 0
 (.loop
 (.seq
 (.seq
 (.reg false [p (.mov (.v 4)),
 p (.mov (.v 0)),
 p (.bin .lss (.r 1) (.r 0))] [(0,.v 0),(3,.v 3),(4,.v 4),(7,.r 0)])
 (.cond (.v 7)
 .skip
 (.exit 0)))
 (.seq
 (.block 1
 (.reg false [p (.mov (.v 3)),
 p (.bin .mul (.r 0) (.k (.int .i64 256))),
 p (.mov (.r 0))] [(0,.v 0),(3,.r 0),(4,.v 4)]))
 (.reg false [p (.mov (.v 4)),
 p (.bin .add (.r 0) (.k (.int .i64 1))),
 p (.mov (.r 0))] [(0,.v 0),(3,.v 3),(4,.r 0)]))))))
 (.frz
 (.seq
 (.reg false [p (.mov (.v 3)),
 p (.mov (.r 0))] [(2,.r 0)])
 .ret)))))
def r129:List RV:=[.t 2]
theorem en129:EnP Tryz.prog 129 13 c129 r129:=mkEnP (by kernel_rfl) Tryz.func129 (by kernel_rfl) ⟨_,rfl,by kernel_rfl,by kernel_rfl⟩
def c135:C :=
  (.seq
 (.reg false [p (.mov (.k (.int .u32 0)))] [(0,.v 0),(1,.v 1)])
 (.seq
 (.reg false [p (.mov (.v 0)),
 p (.un .xor (.r 0)),
 p (.mov (.r 0))] [(1,.v 1),(5,.r 0)])
 (.seq
 (.seq
 (.reg false [p (.mov (.v 1)),
 p (.stb (.r 0)),
 p (.len false (.r 0)),
 p (.mov (.k (.int .i64 0)))] [(5,.v 5),(11,.r 2),(12,.r 1),(13,.r 0)])
 (.block 0
 (.loop
 (.seq
 (.reg false [p (.bin .lss (.v 13) (.v 12))] [(5,.v 5),(11,.v 11),(12,.v 12),(13,.v 13),(14,.r 0)])
 (.seq
 (.cond (.v 14)
 .skip
 (.exit 0))
 (.seq
 (.block 1
 (.seq
 (.reg false [p (.iad 1 (.v 11) (.v 13)),
 p (.load (none) (.r 0)),
 p (.mov (.r 0))] [(5,.v 5),(7,.r 0),(11,.v 11),(12,.v 12),(13,.v 13)])
 (.seq
 (.reg false [p (.mov (.v 5)),
 p (.mov (.v 7)),
 p (.cvt .u32 (.r 0)),
 p (.bin .xor (.r 2) (.r 0)),
 p (.mov (.r 0))] [(5,.r 0),(11,.v 11),(12,.v 12),(13,.v 13)])
 (.seq
 (.reg false [p (.mov (.k (.int .i64 0)))] [(5,.v 5),(11,.v 11),(12,.v 12),(13,.v 13),(21,.r 0)])
 (.block 2
 (.loop
 (.seq
 (.reg false [p (.bin .lss (.v 21) (.k (.int .i64 8)))] [(5,.v 5),(11,.v 11),(12,.v 12),(13,.v 13),(21,.v 21),(22,.r 0)])
 (.seq
 (.cond (.v 22)
 .skip
 (.exit 2))
 (.seq
 (.block 3
 (.reg false [p (.mov (.v 5)),
 p (.bin .shr (.r 0) (.k (.int .u64 1))),
 p (.mov (.v 5)),
 p (.bin .and (.r 0) (.k (.int .u32 1))),
 p (.un .neg (.r 0)),
 p (.bin .and (.k (.int .u32 2197175160)) (.r 0)),
 p (.bin .xor (.r 4) (.r 0)),
 p (.mov (.r 0))] [(5,.r 0),(11,.v 11),(12,.v 12),(13,.v 13),(21,.v 21)]))
 (.reg false [p (.bin .add (.v 21) (.k (.int .i64 1))),
 p (.mov (.r 0))] [(5,.v 5),(11,.v 11),(12,.v 12),(13,.v 13),(21,.r 0)]))))))))))
 (.frz
 (.reg false [p (.bin .add (.v 13) (.k (.int .i64 1))),
 p (.mov (.r 0))] [(5,.v 5),(11,.v 11),(12,.v 12),(13,.r 0)]))))))))
 (.frz
 (.seq
 (.reg false [p (.mov (.v 5)),
 p (.un .xor (.r 0)),
 p (.mov (.r 0))] [(4,.r 0)])
 .ret)))))
def r135:List RV:=[.t 4]
theorem en135:EnP Tryz.prog 135 34 c135 r135:=mkEnP (by kernel_rfl) Tryz.func135 (by kernel_rfl) ⟨_,rfl,by kernel_rfl,by kernel_rfl⟩
def c133:C :=
  (.seq
 (.reg false [p (.mov (.k (.int .u32 0)))] [(0,.v 0)])
 (.seq
 (.reg false [p (.mov (.k (.int .u32 0)))] [(0,.v 0),(3,.r 0)])
 (.seq
 (.seq
 (.reg false [p (.mov (.v 0)),
 p (.len false (.r 0)),
 p (.mov (.k (.int .i64 0)))] [(3,.v 3),(6,.r 2),(7,.r 1),(8,.r 0)])
 (.block 0
 (.loop
 (.seq
 (.reg false [p (.bin .lss (.v 8) (.v 7))] [(3,.v 3),(6,.v 6),(7,.v 7),(8,.v 8),(9,.r 0)])
 (.seq
 (.cond (.v 9)
 .skip
 (.exit 0))
 (.seq
 (.block 1
 (.seq
 (.reg false [p (.iad 1 (.v 6) (.v 8)),
 p (.load (none) (.r 0)),
 p (.mov (.r 0))] [(3,.v 3),(5,.r 0),(6,.v 6),(7,.v 7),(8,.v 8)])
 (.reg false [p (.mov (.v 3)),
 p (.mov (.v 5)),
 p (.call true (.k (.fn 135 [] [])) [.r 1,.r 0]),
 p (.mov (.r 0))] [(3,.r 0),(6,.v 6),(7,.v 7),(8,.v 8)])))
 (.reg false [p (.bin .add (.v 8) (.k (.int .i64 1))),
 p (.mov (.r 0))] [(3,.v 3),(6,.v 6),(7,.v 7),(8,.r 0)])))))))
 (.frz
 (.seq
 (.reg false [p (.mov (.v 3)),
 p (.mov (.r 0))] [(2,.r 0)])
 .ret)))))
def r133:List RV:=[.t 2]
theorem en133:EnP Tryz.prog 133 17 c133 r133:=mkEnP (by kernel_rfl) Tryz.func133 (by kernel_rfl) ⟨_,rfl,by kernel_rfl,by kernel_rfl⟩
def c123:C :=
  (.seq
 (.reg false [p (.mov (.k (.str [])))] [(0,.v 0)])
 (.seq
 (.reg false [p (.mov (.v 0)),
 p (.bsl 1 [.r 0]),
 p (.call true (.k (.fn 133 [] [])) [.r 0]),
 p (.mov (.r 0))] [(0,.v 0),(3,.r 0)])
 (.seq
 (.reg false [p (.mov (.v 0)),
 p (.mov (.v 3)),
 p (.cvt .u8 (.r 0)),
 p (.mov (.v 3)),
 p (.bin .shr (.r 0) (.k (.int .u64 8))),
 p (.cvt .u8 (.r 0)),
 p (.mov (.v 3)),
 p (.bin .shr (.r 0) (.k (.int .u64 16))),
 p (.cvt .u8 (.r 0)),
 p (.mov (.v 3)),
 p (.bin .shr (.r 0) (.k (.int .u64 24))),
 p (.cvt .u8 (.r 0)),
 p (.bsl 1 [.r 9,.r 6,.r 3,.r 0]),
 p (.bts (.r 0)),
 p (.bsl 1 [.r 13,.r 0]),
 p (.call true (.k (.fn 92 [] [])) [.r 0]),
 p (.mov (.r 0))] [(2,.r 0)])
 .ret)))
def r123:List RV:=[.t 2]
theorem en123:EnP Tryz.prog 123 23 c123 r123:=mkEnP (by kernel_rfl) Tryz.func123 (by kernel_rfl) ⟨_,rfl,by kernel_rfl,by kernel_rfl⟩
def c130:C :=
  (.seq
 (.reg false [p (.mov (.k (.int .u32 0)))] [(0,.v 0),(1,.v 1)])
 (.seq
 (.reg false [p (.mov (.v 0)),
 p (.bin .sub (.k (.int .u32 4294967295)) (.r 0)),
 p (.mov (.r 0))] [(1,.v 1),(5,.r 0)])
 (.seq
 (.seq
 (.reg false [p (.mov (.k (.int .i64 0)))] [(1,.v 1),(5,.v 5),(6,.r 0)])
 (.block 0
 (.loop
 (.seq
 (.seq
 (.reg false [p (.mov (.v 6)),
 p (.mov (.v 1)),
 p (.len true (.r 0)),
 p (.bin .lss (.r 2) (.r 0))] [(1,.v 1),(5,.v 5),(6,.v 6),(15,.r 0)])
 (.cond (.v 15)
 .skip
 (.exit 0)))
 (.seq
 (.block 1
 (.seq
 (.reg false [p (.mov (.k (.int .i64 0)))] [(1,.v 1),(5,.v 5),(6,.v 6),(7,.r 0)])
 (.block 2
 (.loop
 (.seq
 (.seq
 (.reg false [p (.mov (.v 7)),
 p (.bin .lss (.r 0) (.k (.int .i64 8)))] [(1,.v 1),(5,.v 5),(6,.v 6),(7,.v 7),(19,.r 0)])
 (.cond (.v 19)
 .skip
 (.exit 2)))
 (.seq
 (.block 3
 (.seq
 (.reg false [p (.mov (.v 1)),
 p (.mov (.v 6)),
 p (.ixs (.r 1) (.r 0)),
 p (.cvt .u32 (.r 0)),
 p (.mov (.v 7)),
 p (.cvt .u64 (.r 0)),
 p (.bin .shr (.r 2) (.r 0)),
 p (.bin .rem (.r 0) (.k (.int .u32 2))),
 p (.mov (.r 0))] [(1,.v 1),(5,.v 5),(6,.v 6),(7,.v 7),(8,.r 0)])
 (.seq
 (.reg false [p (.mov (.v 5)),
 p (.bin .rem (.r 0) (.k (.int .u32 2))),
 p (.mov (.r 0))] [(1,.v 1),(5,.v 5),(6,.v 6),(7,.v 7),(8,.v 8),(9,.r 0)])
 (.seq
 (.reg false [p (.mov (.v 5)),
 p (.bin .quo (.r 0) (.k (.int .u32 2))),
 p (.mov (.r 0))] [(1,.v 1),(5,.r 0),(6,.v 6),(7,.v 7),(8,.v 8),(9,.v 9)])
 (.seq
 (.reg false [p (.mov (.v 9)),
 p (.mov (.v 8)),
 p (.bin .neq (.r 1) (.r 0))] [(1,.v 1),(5,.v 5),(6,.v 6),(7,.v 7),(36,.r 0)])
 (.cond (.v 36)
 (.reg false [p (.mov (.v 5)),
 p (.bin .xor (.r 0) (.k (.int .u32 2197175160))),
 p (.mov (.r 0))] [(1,.v 1),(5,.r 0),(6,.v 6),(7,.v 7)])
 .skip))))))
 (.reg false [p (.mov (.v 7)),
 p (.bin .add (.r 0) (.k (.int .i64 1))),
 p (.mov (.r 0))] [(1,.v 1),(5,.v 5),(6,.v 6),(7,.r 0)])))))))
 (.frz
 (.reg false [p (.mov (.v 6)),
 p (.bin .add (.r 0) (.k (.int .i64 1))),
 p (.mov (.r 0))] [(1,.v 1),(5,.v 5),(6,.r 0)])))))))
 (.frz
 (.seq
 (.reg false [p (.mov (.v 5)),
 p (.bin .sub (.k (.int .u32 4294967295)) (.r 0)),
 p (.mov (.r 0))] [(4,.r 0)])
 .ret)))))
def r130:List RV:=[.t 4]
theorem en130:EnP Tryz.prog 130 41 c130 r130:=mkEnP (by kernel_rfl) Tryz.func130 (by kernel_rfl) ⟨_,rfl,by kernel_rfl,by kernel_rfl⟩
def c112:C :=
  (.seq
 (.reg false [p (.mov (.k (.int .u32 0)))] [(0,.v 0)])
 (.seq
 (.reg false [p (.mov (.v 0)),
 p (.call true (.k (.fn 130 [] [])) [.k (.int .u32 0),.r 0]),
 p (.mov (.r 0))] [(2,.r 0)])
 .ret))
def r112:List RV:=[.t 2]
theorem en112:EnP Tryz.prog 112 5 c112 r112:=mkEnP (by kernel_rfl) Tryz.func112 (by kernel_rfl) ⟨_,rfl,by kernel_rfl,by kernel_rfl⟩
def c83:C :=
  (.seq
 (.reg false [p (.mov (.k (.str [])))] [(0,.v 0)])
 (.seq
 (.reg false [p (.mov (.v 0)),
 p (.call true (.k (.fn 112 [] [])) [.r 0]),
 p (.mov (.r 0))] [(0,.v 0),(3,.r 0)])
 (.seq
 (.reg false [p (.mov (.v 3)),
 p (.bin .rem (.r 0) (.k (.int .u32 256))),
 p (.cvt .u8 (.r 0)),
 p (.mov (.v 3)),
 p (.bin .quo (.r 0) (.k (.int .u32 256))),
 p (.bin .rem (.r 0) (.k (.int .u32 256))),
 p (.cvt .u8 (.r 0)),
 p (.mov (.v 3)),
 p (.bin .quo (.r 0) (.k (.int .u32 65536))),
 p (.bin .rem (.r 0) (.k (.int .u32 256))),
 p (.cvt .u8 (.r 0)),
 p (.mov (.v 3)),
 p (.bin .quo (.r 0) (.k (.int .u32 16777216))),
 p (.cvt .u8 (.r 0)),
 p (.bsl 1 [.r 11,.r 7,.r 3,.r 0]),
 p (.mov (.r 0))] [(0,.v 0),(4,.r 0)])
 (.seq
 (.reg false [p (.mov (.v 0)),
 p (.mov (.v 4)),
 p (.bts (.r 0)),
 p (.bin .add (.r 2) (.r 0)),
 p (.mov (.r 0))] [(2,.r 0)])
 .ret))))
def r83:List RV:=[.t 2]
theorem en83:EnP Tryz.prog 83 26 c83 r83:=mkEnP (by kernel_rfl) Tryz.func83 (by kernel_rfl) ⟨_,rfl,by kernel_rfl,by kernel_rfl⟩
def c61:C :=
  (.seq
 (.reg false [p (.mov (.k (.int .i64 0)))] [(0,.v 0),(1,.v 1)])
 (.seq
 (.seq
 (.reg false [p (.mov (.v 0)),
 p (.len false (.r 0)),
 p (.mov (.k (.int .i64 0)))] [(0,.v 0),(1,.v 1),(7,.r 1),(8,.r 0)])
 (.block 0
 (.loop
 (.seq
 (.reg false [p (.bin .lss (.v 8) (.v 7))] [(0,.v 0),(1,.v 1),(7,.v 7),(8,.v 8),(9,.r 0)])
 (.seq
 (.cond (.v 9)
 .skip
 (.exit 0))
 (.seq
 (.block 1
 (.seq
 (.reg false [p (.mov (.v 8)),
 p (.mov (.r 0))] [(0,.v 0),(1,.v 1),(5,.r 0),(7,.v 7),(8,.v 8)])
 (.seq
 (.reg false [p (.mov (.v 1)),
 p (.mov (.v 0)),
 p (.mov (.v 5)),
 p (.iad 1 (.r 1) (.r 0)),
 p (.load (none) (.r 0)),
 p (.call false (.r 4) [.r 0])] [(0,.v 0),(1,.v 1),(5,.v 5),(7,.v 7),(8,.v 8),(16,.r 0)])
 (.cond (.v 16)
 (.seq
 (.reg false [p (.mov (.v 5)),
 p (.mov (.r 0))] [(4,.r 0)])
 .ret)
 .skip))))
 (.reg false [p (.bin .add (.v 8) (.k (.int .i64 1))),
 p (.mov (.r 0))] [(0,.v 0),(1,.v 1),(7,.v 7),(8,.r 0)])))))))
 (.frz
 (.seq
 (.reg false [p (.mov (.k (.int .i64 (-1))))] [(4,.r 0)])
 .ret))))
def r61:List RV:=[.t 4]
theorem chk61:Chk Tryz.prog Tryz.f61 c61 r61:=⟨_,rfl,by kernel_rfl,by kernel_rfl⟩
theorem ena61:EnA Tryz.prog 61 19 c61 r61:=mkEnA (by kernel_rfl) Tryz.func61 (by kernel_rfl) chk61
def c49:C :=
  (.seq
 (.reg false [p (.mov (.k (.bool false)))] [(0,.v 0),(1,.v 1)])
 (.seq
 (.reg false [p (.mov (.v 0)),
 p (.mov (.v 1)),
 p (.call false (.k (.fn 61 [] [])) [.r 1,.r 0]),
 p (.bin .geq (.r 0) (.k (.int .i64 0))),
 p (.mov (.r 0))] [(4,.r 0)])
 .ret))
def r49:List RV:=[.t 4]
theorem chk49:Chk Tryz.prog Tryz.f49 c49 r49:=⟨_,rfl,by kernel_rfl,by kernel_rfl⟩
theorem ena49:EnA Tryz.prog 49 9 c49 r49:=mkEnA (by kernel_rfl) Tryz.func49 (by kernel_rfl) chk49
def c124:C :=
  (.seq
 (.reg false [p (.mov (.k (.int .i64 0)))] [(0,.v 0),(1,.v 1)])
 (.seq
 (.seq
 (.reg false [p (.mov (.v 0)),
 p (.len false (.r 0)),
 p (.mov (.k (.int .i64 0)))] [(0,.v 0),(1,.v 1),(7,.r 1),(8,.r 0)])
 (.block 0
 (.loop
 (.seq
 (.reg false [p (.bin .lss (.v 8) (.v 7))] [(0,.v 0),(1,.v 1),(7,.v 7),(8,.v 8),(9,.r 0)])
 (.seq
 (.cond (.v 9)
 .skip
 (.exit 0))
 (.seq
 (.block 1
 (.seq
 (.reg false [p (.mov (.v 8)),
 p (.mov (.r 0))] [(0,.v 0),(1,.v 1),(5,.r 0),(7,.v 7),(8,.v 8)])
 (.seq
 (.reg false [p (.mov (.v 1)),
 p (.mov (.v 0)),
 p (.mov (.v 5)),
 p (.iad 4 (.r 1) (.r 0)),
 p (.load (some 4) (.r 0)),
 p (.call false (.r 4) [.r 0])] [(0,.v 0),(1,.v 1),(5,.v 5),(7,.v 7),(8,.v 8),(16,.r 0)])
 (.cond (.v 16)
 (.seq
 (.reg false [p (.mov (.v 5)),
 p (.mov (.r 0))] [(4,.r 0)])
 .ret)
 .skip))))
 (.reg false [p (.bin .add (.v 8) (.k (.int .i64 1))),
 p (.mov (.r 0))] [(0,.v 0),(1,.v 1),(7,.v 7),(8,.r 0)])))))))
 (.frz
 (.seq
 (.reg false [p (.mov (.k (.int .i64 (-1))))] [(4,.r 0)])
 .ret))))
def r124:List RV:=[.t 4]
theorem chk124:Chk Tryz.prog Tryz.f124 c124 r124:=⟨_,rfl,by kernel_rfl,by kernel_rfl⟩
theorem ena124:EnA Tryz.prog 124 19 c124 r124:=mkEnA (by kernel_rfl) Tryz.func124 (by kernel_rfl) chk124
def c95:C :=
  (.seq
 (.reg false [p (.mov (.k (.bool false)))] [(0,.v 0),(1,.v 1)])
 (.seq
 (.reg false [p (.mov (.v 0)),
 p (.mov (.v 1)),
 p (.call false (.k (.fn 124 [] [])) [.r 1,.r 0]),
 p (.bin .geq (.r 0) (.k (.int .i64 0))),
 p (.mov (.r 0))] [(4,.r 0)])
 .ret))
def r95:List RV:=[.t 4]
theorem chk95:Chk Tryz.prog Tryz.f95 c95 r95:=⟨_,rfl,by kernel_rfl,by kernel_rfl⟩
theorem ena95:EnA Tryz.prog 95 9 c95 r95:=mkEnA (by kernel_rfl) Tryz.func95 (by kernel_rfl) chk95
def c97:C :=
  (.seq
 (.reg false [p (.box 4 (.v 0)),
 p (.mov (.k (.bool false)))] [(1,.v 1),(2,.r 1)])
 (.seq
 (.reg false [p (.mov (.k (.int .i64 (-1))))] [(1,.v 1),(2,.v 2),(5,.r 0)])
 (.seq
 (.seq
 (.reg false [p (.fad 0 (.v 2)),
 p (.load (none) (.r 0)),
 p (.len false (.r 0)),
 p (.mov (.k (.int .i64 0)))] [(1,.v 1),(2,.v 2),(5,.v 5),(9,.r 2),(10,.r 1),(11,.r 0)])
 (.block 0
 (.loop
 (.seq
 (.reg false [p (.bin .lss (.v 11) (.v 10))] [(1,.v 1),(2,.v 2),(5,.v 5),(9,.v 9),(10,.v 10),(11,.v 11),(12,.r 0)])
 (.seq
 (.cond (.v 12)
 .skip
 (.exit 0))
 (.seq
 (.block 1
 (.seq
 (.reg false [p (.iad 1 (.v 9) (.v 11)),
 p (.load (none) (.r 0)),
 p (.mov (.r 0))] [(1,.v 1),(2,.v 2),(5,.v 5),(7,.r 0),(9,.v 9),(10,.v 10),(11,.v 11)])
 (.seq
 (.seq
 (.reg false [p (.mov (.v 7)),
 p (.mov (.v 5)),
 p (.bin .leq (.r 1) (.r 0)),
 p (.mov (.r 0)),
 ⟨.mov (.v 7),some (0,false),[]⟩,
 ⟨.mov (.v 1),some (1,false),[]⟩,
 ⟨.bin .geq (.r 1) (.r 0),some (2,false),[]⟩,
 p (.pick (.r 3) (.k (.bool true)) (.r 0))] [(1,.v 1),(2,.v 2),(7,.v 7),(9,.v 9),(10,.v 10),(11,.v 11),(22,.r 0)])
 (.cond (.v 22)
 (.seq
 (.reg false [p (.mov (.k (.bool false)))] [(4,.r 0)])
 .ret)
 .skip))
 (.reg false [p (.mov (.v 7)),
 p (.mov (.r 0))] [(1,.v 1),(2,.v 2),(5,.r 0),(9,.v 9),(10,.v 10),(11,.v 11)]))))
 (.reg false [p (.bin .add (.v 11) (.k (.int .i64 1))),
 p (.mov (.r 0))] [(1,.v 1),(2,.v 2),(5,.v 5),(9,.v 9),(10,.v 10),(11,.r 0)])))))))
 (.frz
 (.seq
 (.reg false [p (.fad 1 (.v 2)),
 p (.load (none) (.r 0)),
 p (.bin .geq (.r 0) (.k (.int .i64 1))),
 p (.mov (.r 0)),
 ⟨.fad 1 (.v 2),some (0,true),[]⟩,
 ⟨.load (none) (.r 0),some (1,true),[]⟩,
 ⟨.bin .leq (.r 0) (.k (.int .i64 8)),some (2,true),[]⟩,
 p (.pick (.r 3) (.r 0) (.k (.bool false))),
 p (.mov (.r 0)),
 ⟨.fad 2 (.v 2),some (0,true),[]⟩,
 ⟨.load (none) (.r 0),some (1,true),[]⟩,
 ⟨.bin .geq (.r 0) (.k (.int .i64 0)),some (2,true),[]⟩,
 p (.pick (.r 3) (.r 0) (.k (.bool false))),
 p (.mov (.r 0)),
 ⟨.fad 2 (.v 2),some (0,true),[]⟩,
 ⟨.load (none) (.r 0),some (1,true),[]⟩,
 ⟨.bin .leq (.r 0) (.k (.int .i64 1048576)),some (2,true),[]⟩,
 p (.pick (.r 3) (.r 0) (.k (.bool false))),
 p (.mov (.r 0)),
 ⟨.fad 3 (.v 2),some (0,true),[]⟩,
 ⟨.load (none) (.r 0),some (1,true),[]⟩,
 ⟨.bin .geq (.r 0) (.k (.int .i64 1)),some (2,true),[]⟩,
 p (.pick (.r 3) (.r 0) (.k (.bool false))),
 p (.mov (.r 0)),
 ⟨.fad 3 (.v 2),some (0,true),[]⟩,
 ⟨.load (none) (.r 0),some (1,true),[]⟩,
 ⟨.bin .leq (.r 0) (.k (.int .i64 1048576)),some (2,true),[]⟩,
 p (.pick (.r 3) (.r 0) (.k (.bool false))),
 p (.mov (.r 0))] [(4,.r 0)])
 .ret)))))
def r97:List RV:=[.t 4]
theorem en97:EnP Tryz.prog 97 53 c97 r97:=mkEnP (by kernel_rfl) Tryz.func97 (by kernel_rfl) ⟨_,rfl,by kernel_rfl,by kernel_rfl⟩
def c134:C :=
  (.seq
 (.reg false [p (.mov (.k (.bool false)))] [(0,.v 0),(1,.v 1)])
 (.seq
 (.reg false [p (.load (none) (.v 1)),
 p (.mov (.v 0)),
 p (.iad 1 (.r 1) (.r 0)),
 p (.load (none) (.r 0)),
 p (.un .not (.r 0)),
 p (.mov (.r 0))] [(3,.r 0)])
 .ret))
def r134:List RV:=[.t 3]
theorem chk134:Chk Tryz.prog Tryz.f134 c134 r134:=⟨_,rfl,by kernel_rfl,by kernel_rfl⟩
theorem ena134:EnA Tryz.prog 134 9 c134 r134:=mkEnA (by kernel_rfl) Tryz.func134 (by kernel_rfl) chk134
def c125:C :=
  (.seq
 (.reg false [p (.box 1 (.v 1)),
 p (.mov (.k (.fsl .nil 1 [])))] [(0,.v 0),(3,.r 1)])
 (.seq
 (.reg false [p (.mkf 134 [] [.v 3]),
 p (.mov (.r 0))] [(0,.v 0),(5,.r 0)])
 (.seq
 (.reg false [p (.mov (.k (.fsl .nil 1 [])))] [(0,.v 0),(5,.v 5),(6,.r 0)])
 (.seq
 (.seq
 (.reg false [p (.mov (.v 0)),
 p (.len false (.r 0)),
 p (.mov (.k (.int .i64 0)))] [(5,.v 5),(6,.v 6),(10,.r 2),(11,.r 1),(12,.r 0)])
 (.block 0
 (.loop
 (.seq
 (.reg false [p (.bin .lss (.v 12) (.v 11))] [(5,.v 5),(6,.v 6),(10,.v 10),(11,.v 11),(12,.v 12),(13,.r 0)])
 (.seq
 (.cond (.v 13)
 .skip
 (.exit 0))
 (.seq
 (.block 1
 (.seq
 (.reg false [p (.mov (.v 12)),
 p (.iad 4 (.v 10) (.v 12)),
 p (.load (some 4) (.r 0)),
 p (.alloc 4 (.agg [.fsl .nil 1 [],.int .i64 0,.int .i64 0,.int .i64 0])),
 p (.mov (.r 3)),
 p (.store (some 4) (.r 1) (.r 2))] [(5,.v 5),(6,.v 6),(7,.r 1),(8,.r 2),(10,.v 10),(11,.v 11),(12,.v 12)])
 (.seq
 (.reg false [p (.mov (.v 5)),
 p (.mov (.v 7)),
 p (.call false (.r 1) [.r 0]),
 p (.mov (.r 0)),
 ⟨.fad 0 (.v 8),some (0,true),[]⟩,
 ⟨.load (none) (.r 0),some (1,true),[]⟩,
 ⟨.mov (.v 5),some (2,true),[]⟩,
 ⟨.call false (.k (.fn 49 [] [])) [.r 1,.r 0],some (3,true),[]⟩,
 ⟨.un .not (.r 0),some (4,true),[]⟩,
 p (.pick (.r 5) (.r 0) (.k (.bool false)))] [(5,.v 5),(6,.v 6),(7,.v 7),(10,.v 10),(11,.v 11),(12,.v 12),(26,.r 0)])
 (.cond (.v 26)
 (.reg false [p (.mov (.v 6)),
 p (.mov (.v 7)),
 p (.bsl 1 [.r 0]),
 p (.app 1 8 (.r 2) (.r 0)),
 p (.mov (.r 0))] [(5,.v 5),(6,.r 0),(10,.v 10),(11,.v 11),(12,.v 12)])
 .skip))))
 (.reg false [p (.bin .add (.v 12) (.k (.int .i64 1))),
 p (.mov (.r 0))] [(5,.v 5),(6,.v 6),(10,.v 10),(11,.v 11),(12,.r 0)])))))))
 (.frz
 (.seq
 (.reg false [p (.mov (.v 6)),
 p (.mov (.r 0))] [(4,.r 0)])
 .ret))))))
def r125:List RV:=[.t 4]
theorem chk125:Chk Tryz.prog Tryz.f125 c125 r125:=⟨_,rfl,by kernel_rfl,by kernel_rfl⟩
theorem ena125:EnA Tryz.prog 125 33 c125 r125:=mkEnA (by kernel_rfl) Tryz.func125 (by kernel_rfl) chk125
def c98:C :=
  (.seq
 (.reg false [p (.mov (.k (.fsl .nil 1 [])))] [(0,.v 0)])
 (.seq
 (.reg false [p (.mov (.v 0)),
 p (.len false (.r 0)),
 p (.mks 1 1 (.bool false) (.r 0)),
 p (.mov (.r 0))] [(0,.v 0),(3,.r 0)])
 (.seq
 (.reg false [p (.mov (.k (.fsl .nil 1 [])))] [(0,.v 0),(3,.v 3),(4,.r 0)])
 (.block 0
 (.loop
 (.block 1
 (.seq
 (.reg false [p (.mov (.v 0)),
 p (.mov (.v 3)),
 p (.call false (.k (.fn 125 [] [])) [.r 1,.r 0]),
 p (.mov (.r 0))] [(0,.v 0),(3,.v 3),(4,.v 4),(5,.r 0)])
 (.seq
 (.seq
 (.reg false [p (.mov (.v 5)),
 p (.len false (.r 0)),
 p (.bin .eql (.r 0) (.k (.int .i64 0)))] [(0,.v 0),(3,.v 3),(4,.v 4),(5,.v 5),(14,.r 0)])
 (.cond (.v 14)
 (.seq
 (.reg false [p (.mov (.v 4)),
 p (.mov (.r 0))] [(2,.r 0)])
 .ret)
 .skip))
 (.seq
 (.reg false [p (.mov (.v 3)),
 p (.mov (.v 5)),
 p (.iad 1 (.r 0) (.k (.int .i64 0))),
 p (.load (none) (.r 0)),
 p (.iad 1 (.r 3) (.r 0)),
 p (.store (none) (.r 0) (.k (.bool true)))] [(0,.v 0),(3,.v 3),(4,.v 4),(5,.v 5)])
 (.reg false [p (.mov (.v 4)),
 p (.mov (.v 5)),
 p (.iad 1 (.r 0) (.k (.int .i64 0))),
 p (.load (none) (.r 0)),
 p (.bsl 1 [.r 0]),
 p (.app 1 8 (.r 4) (.r 0)),
 p (.mov (.r 0))] [(0,.v 0),(3,.v 3),(4,.r 0)]))))))))))
def r98:List RV:=[.t 2]
theorem en98:EnP Tryz.prog 98 27 c98 r98:=mkEnP (by kernel_rfl) Tryz.func98 (by kernel_rfl) ⟨_,rfl,by kernel_rfl,by kernel_rfl⟩
def c96:C :=
  (.seq
 (.reg false [p (.box 4 (.v 0)),
 p (.mov (.k (.bool false)))] [(1,.v 1),(2,.r 1)])
 (.seq
 (.reg false [p (.load (some 4) (.v 2)),
 p (.load (none) (.v 1)),
 p (.call true (.k (.fn 97 [] [])) [.r 1,.r 0]),
 p (.un .not (.r 0)),
 p (.mov (.r 0))] [(3,.r 0)])
 .ret))
def r96:List RV:=[.t 3]
theorem chk96:Chk Tryz.prog Tryz.f96 c96 r96:=⟨_,rfl,by kernel_rfl,by kernel_rfl⟩
theorem ena96:EnA Tryz.prog 96 8 c96 r96:=mkEnA (by kernel_rfl) Tryz.func96 (by kernel_rfl) chk96
def c63:C :=
  (.seq
 (.reg false [p (.box 2 (.v 0)),
 p (.mov (.k (.int .i64 0)))] [(1,.r 1)])
 (.seq
 (.reg false [p (.fad 1 (.v 1)),
 p (.load (none) (.r 0)),
 p (.len false (.r 0)),
 p (.alloc 1 (.int .i64 0)),
 p (.store (none) (.r 0) (.r 1))] [(1,.v 1),(3,.r 1)])
 (.seq
 (.block 0
 (.seq
 (.reg false [p (.load (none) (.v 3)),
 p (.bin .gtr (.r 0) (.k (.int .i64 10))),
 p (.mov (.r 0))] [(1,.v 1),(3,.v 3),(7,.r 0)])
 (.cond (.v 7)
 (.seq
 (.reg false [p (.mov (.k (.int .i64 2)))] [(2,.r 0)])
 .ret)
 (.seq
 (.reg false [p (.load (none) (.v 3)),
 p (.bin .lss (.r 0) (.k (.int .i64 1))),
 p (.mov (.r 0)),
 ⟨.fad 0 (.v 1),some (0,false),[]⟩,
 ⟨.load (none) (.r 0),some (1,false),[]⟩,
 ⟨.len true (.r 0),some (2,false),[]⟩,
 ⟨.bin .lss (.r 0) (.k (.int .i64 1)),some (3,false),[]⟩,
 p (.pick (.r 4) (.k (.bool true)) (.r 0)),
 p (.mov (.r 0)),
 ⟨.fad 0 (.v 1),some (0,false),[]⟩,
 ⟨.load (none) (.r 0),some (1,false),[]⟩,
 ⟨.len true (.r 0),some (2,false),[]⟩,
 ⟨.bin .gtr (.r 0) (.k (.int .i64 16)),some (3,false),[]⟩,
 p (.pick (.r 4) (.k (.bool true)) (.r 0)),
 p (.mov (.r 0)),
 ⟨.fad 1 (.v 1),some (0,false),[]⟩,
 ⟨.load (none) (.r 0),some (1,false),[]⟩,
 ⟨.mkf 96 [] [.v 3],some (2,false),[]⟩,
 ⟨.call false (.k (.fn 95 [] [])) [.r 1,.r 0],some (3,false),[]⟩,
 p (.pick (.r 4) (.k (.bool true)) (.r 0)),
 p (.mov (.r 0))] [(1,.v 1),(3,.v 3),(10,.r 0)])
 (.cond (.v 10)
 (.seq
 (.reg false [p (.mov (.k (.int .i64 1)))] [(2,.r 0)])
 .ret)
 (.seq
 (.reg true [p (.fad 1 (.v 1)),
 p (.load (none) (.r 0)),
 p (.call true (.k (.fn 98 [] [])) [.r 0]),
 p (.len false (.r 0)),
 p (.load (none) (.v 3)),
 p (.bin .lss (.r 1) (.r 0)),
 p (.mov (.r 0))] [(31,.r 0)])
 (.cond (.v 31)
 (.seq
 (.reg false [p (.mov (.k (.int .i64 160)))] [(2,.r 0)])
 .ret)
 .skip)))))))
 (.seq
 (.reg false [p (.mov (.k (.int .i64 0)))] [(2,.r 0)])
 .ret))))
def r63:List RV:=[.t 2]
theorem en63:EnP Tryz.prog 63 38 c63 r63:=mkEnP (by kernel_rfl) Tryz.func63 (by kernel_rfl) ⟨_,rfl,by kernel_rfl,by kernel_rfl⟩
def c107:C :=
  (.seq
 (.reg false [p (.box 2 (.v 0)),
 p (.mov (.k (.bool false)))] [(1,.r 1)])
 (.seq
 (.reg false [p (.fad 1 (.v 1)),
 p (.load (none) (.r 0)),
 p (.len false (.r 0)),
 p (.mov (.r 0))] [(1,.v 1),(3,.r 0)])
 (.seq
 (.seq
 (.reg false [p (.mov (.v 3)),
 p (.bin .lss (.r 0) (.k (.int .i64 1))),
 p (.mov (.r 0)),
 ⟨.fad 0 (.v 1),some (0,false),[]⟩,
 ⟨.load (none) (.r 0),some (1,false),[]⟩,
 ⟨.len true (.r 0),some (2,false),[]⟩,
 ⟨.bin .lss (.r 0) (.k (.int .i64 1)),some (3,false),[]⟩,
 p (.pick (.r 4) (.k (.bool true)) (.r 0)),
 p (.mov (.r 0)),
 ⟨.fad 0 (.v 1),some (0,false),[]⟩,
 ⟨.load (none) (.r 0),some (1,false),[]⟩,
 ⟨.len true (.r 0),some (2,false),[]⟩,
 ⟨.bin .gtr (.r 0) (.k (.int .i64 16)),some (3,false),[]⟩,
 p (.pick (.r 4) (.k (.bool true)) (.r 0))] [(1,.v 1),(3,.v 3),(24,.r 0)])
 (.cond (.v 24)
 (.seq
 (.reg false [p (.mov (.k (.bool false)))] [(2,.r 0)])
 .ret)
 .skip))
 (.seq
 (.seq
 (.reg false [p (.fad 1 (.v 1)),
 p (.load (none) (.r 0)),
 p (.len false (.r 0)),
 p (.mov (.k (.int .i64 0)))] [(3,.v 3),(26,.r 2),(27,.r 1),(28,.r 0)])
 (.block 0
 (.loop
 (.seq
 (.reg false [p (.bin .lss (.v 28) (.v 27))] [(3,.v 3),(26,.v 26),(27,.v 27),(28,.v 28),(29,.r 0)])
 (.seq
 (.cond (.v 29)
 .skip
 (.exit 0))
 (.seq
 (.block 1
 (.seq
 (.reg false [p (.iad 4 (.v 26) (.v 28)),
 p (.load (some 4) (.r 0)),
 p (.alloc 4 (.agg [.fsl .nil 1 [],.int .i64 0,.int .i64 0,.int .i64 0])),
 p (.store (some 4) (.r 0) (.r 1))] [(3,.v 3),(5,.r 1),(26,.v 26),(27,.v 27),(28,.v 28)])
 (.seq
 (.seq
 (.reg false [p (.fad 0 (.v 5)),
 p (.load (none) (.r 0)),
 p (.len false (.r 0)),
 p (.mov (.k (.int .i64 0)))] [(3,.v 3),(5,.v 5),(26,.v 26),(27,.v 27),(28,.v 28),(33,.r 2),(34,.r 1),(35,.r 0)])
 (.block 2
 (.loop
 (.seq
 (.reg false [p (.bin .lss (.v 35) (.v 34))] [(3,.v 3),(5,.v 5),(26,.v 26),(27,.v 27),(28,.v 28),(33,.v 33),(34,.v 34),(35,.v 35),(36,.r 0)])
 (.seq
 (.cond (.v 36)
 .skip
 (.exit 2))
 (.seq
 (.block 3
 (.seq
 (.reg false [p (.mov (.v 35)),
 p (.iad 1 (.v 33) (.v 35)),
 p (.load (none) (.r 0)),
 p (.mov (.r 2)),
 p (.mov (.r 1))] [(3,.v 3),(5,.v 5),(6,.r 1),(7,.r 0),(26,.v 26),(27,.v 27),(28,.v 28),(33,.v 33),(34,.v 34),(35,.v 35)])
 (.seq
 (.reg false [p (.mov (.v 7)),
 p (.bin .lss (.r 0) (.k (.int .i64 0))),
 p (.mov (.r 0)),
 ⟨.mov (.v 7),some (0,false),[]⟩,
 ⟨.mov (.v 3),some (1,false),[]⟩,
 ⟨.bin .geq (.r 1) (.r 0),some (2,false),[]⟩,
 p (.pick (.r 3) (.k (.bool true)) (.r 0)),
 p (.mov (.r 0)),
 ⟨.mov (.v 6),some (0,false),[]⟩,
 ⟨.bin .gtr (.r 0) (.k (.int .i64 0)),some (1,false),[]⟩,
 ⟨.mov (.r 0),some (2,false),[]⟩,
 ⟨.mov (.v 7),some (0,true),[]⟩,
 ⟨.fad 0 (.v 5),some (1,true),[]⟩,
 ⟨.load (none) (.r 0),some (2,true),[]⟩,
 ⟨.mov (.v 6),some (3,true),[]⟩,
 ⟨.bin .sub (.r 0) (.k (.int .i64 1)),some (4,true),[]⟩,
 ⟨.iad 1 (.r 2) (.r 0),some (5,true),[]⟩,
 ⟨.load (none) (.r 0),some (6,true),[]⟩,
 ⟨.bin .leq (.r 6) (.r 0),some (7,true),[]⟩,
 ⟨.pick (.r 8) (.r 0) (.k (.bool false)),some (11,false),[]⟩,
 p (.pick (.r 12) (.k (.bool true)) (.r 0))] [(3,.v 3),(5,.v 5),(26,.v 26),(27,.v 27),(28,.v 28),(33,.v 33),(34,.v 34),(35,.v 35),(60,.r 0)])
 (.cond (.v 60)
 (.seq
 (.reg false [p (.mov (.k (.bool false)))] [(2,.r 0)])
 .ret)
 .skip))))
 (.reg false [p (.bin .add (.v 35) (.k (.int .i64 1))),
 p (.mov (.r 0))] [(3,.v 3),(5,.v 5),(26,.v 26),(27,.v 27),(28,.v 28),(33,.v 33),(34,.v 34),(35,.r 0)])))))))
 (.frz
 (.seq
 (.reg false [p (.fad 1 (.v 5)),
 p (.load (none) (.r 0)),
 p (.bin .lss (.r 0) (.k (.int .i64 1))),
 p (.mov (.r 0)),
 ⟨.fad 1 (.v 5),some (0,false),[]⟩,
 ⟨.load (none) (.r 0),some (1,false),[]⟩,
 ⟨.bin .gtr (.r 0) (.k (.int .i64 8)),some (2,false),[]⟩,
 p (.pick (.r 3) (.k (.bool true)) (.r 0)),
 p (.mov (.r 0)),
 ⟨.fad 2 (.v 5),some (0,false),[]⟩,
 ⟨.load (none) (.r 0),some (1,false),[]⟩,
 ⟨.bin .lss (.r 0) (.k (.int .i64 0)),some (2,false),[]⟩,
 p (.pick (.r 3) (.k (.bool true)) (.r 0)),
 p (.mov (.r 0)),
 ⟨.fad 2 (.v 5),some (0,false),[]⟩,
 ⟨.load (none) (.r 0),some (1,false),[]⟩,
 ⟨.bin .gtr (.r 0) (.k (.int .i64 1048576)),some (2,false),[]⟩,
 p (.pick (.r 3) (.k (.bool true)) (.r 0)),
 p (.mov (.r 0)),
 ⟨.fad 3 (.v 5),some (0,false),[]⟩,
 ⟨.load (none) (.r 0),some (1,false),[]⟩,
 ⟨.bin .lss (.r 0) (.k (.int .i64 1)),some (2,false),[]⟩,
 p (.pick (.r 3) (.k (.bool true)) (.r 0)),
 p (.mov (.r 0)),
 ⟨.fad 3 (.v 5),some (0,false),[]⟩,
 ⟨.load (none) (.r 0),some (1,false),[]⟩,
 ⟨.bin .gtr (.r 0) (.k (.int .i64 1048576)),some (2,false),[]⟩,
 p (.pick (.r 3) (.k (.bool true)) (.r 0))] [(3,.v 3),(26,.v 26),(27,.v 27),(28,.v 28),(89,.r 0)])
 (.cond (.v 89)
 (.seq
 (.reg false [p (.mov (.k (.bool false)))] [(2,.r 0)])
 .ret)
 .skip))))))
 (.frz
 (.reg false [p (.bin .add (.v 28) (.k (.int .i64 1))),
 p (.mov (.r 0))] [(3,.v 3),(26,.v 26),(27,.v 27),(28,.r 0)]))))))))
 (.frz
 (.seq
 (.reg false [p (.mov (.k (.bool true)))] [(2,.r 0)])
 .ret))))))
def r107:List RV:=[.t 2]
theorem en107:EnP Tryz.prog 107 91 c107 r107:=mkEnP (by kernel_rfl) Tryz.func107 (by kernel_rfl) ⟨_,rfl,by kernel_rfl,by kernel_rfl⟩
def c108:C :=
  (.seq
 (.reg false [p (.box 2 (.v 0)),
 p (.mov (.k (.fsl .nil 1 [])))] [(1,.v 1),(2,.r 1)])
 (.seq
 (.reg false [p (.fad 1 (.v 2)),
 p (.load (none) (.r 0)),
 p (.len false (.r 0)),
 p (.mks 1 1 (.bool false) (.r 0)),
 p (.mov (.r 0))] [(1,.v 1),(2,.v 2),(5,.r 0)])
 (.seq
 (.seq
 (.reg false [p (.fad 1 (.v 2)),
 p (.load (none) (.r 0)),
 p (.mov (.v 1)),
 p (.iad 4 (.r 1) (.r 0)),
 p (.fad 0 (.r 0)),
 p (.load (none) (.r 0)),
 p (.len false (.r 0)),
 p (.mov (.k (.int .i64 0)))] [(2,.v 2),(5,.v 5),(22,.r 2),(23,.r 1),(24,.r 0)])
 (.block 0
 (.loop
 (.seq
 (.reg false [p (.bin .lss (.v 24) (.v 23))] [(2,.v 2),(5,.v 5),(22,.v 22),(23,.v 23),(24,.v 24),(25,.r 0)])
 (.seq
 (.cond (.v 25)
 .skip
 (.exit 0))
 (.seq
 (.block 1
 (.seq
 (.reg false [p (.iad 1 (.v 22) (.v 24)),
 p (.load (none) (.r 0)),
 p (.mov (.r 0))] [(2,.v 2),(5,.v 5),(7,.r 0),(22,.v 22),(23,.v 23),(24,.v 24)])
 (.reg false [p (.mov (.v 5)),
 p (.mov (.v 7)),
 p (.iad 1 (.r 1) (.r 0)),
 p (.store (none) (.r 0) (.k (.bool true)))] [(2,.v 2),(5,.v 5),(22,.v 22),(23,.v 23),(24,.v 24)])))
 (.reg false [p (.bin .add (.v 24) (.k (.int .i64 1))),
 p (.mov (.r 0))] [(2,.v 2),(5,.v 5),(22,.v 22),(23,.v 23),(24,.r 0)])))))))
 (.frz
 (.seq
 (.seq
 (.reg false [p (.mov (.k (.int .i64 0)))] [(2,.v 2),(5,.v 5),(8,.r 0)])
 (.block 2
 (.loop
 (.seq
 (.seq
 (.reg false [p (.mov (.v 8)),
 p (.fad 1 (.v 2)),
 p (.load (none) (.r 0)),
 p (.len false (.r 0)),
 p (.bin .lss (.r 3) (.r 0))] [(2,.v 2),(5,.v 5),(8,.v 8),(36,.r 0)])
 (.cond (.v 36)
 .skip
 (.exit 2)))
 (.seq
 (.block 3
 (.seq
 (.reg false [p (.fad 1 (.v 2)),
 p (.load (none) (.r 0)),
 p (.len false (.r 0)),
 p (.mov (.k (.int .i64 0)))] [(2,.v 2),(5,.v 5),(8,.v 8),(40,.r 2),(41,.r 1),(42,.r 0)])
 (.block 4
 (.loop
 (.seq
 (.reg false [p (.bin .lss (.v 42) (.v 41))] [(2,.v 2),(5,.v 5),(8,.v 8),(40,.v 40),(41,.v 41),(42,.v 42),(43,.r 0)])
 (.seq
 (.cond (.v 43)
 .skip
 (.exit 4))
 (.seq
 (.block 5
 (.seq
 (.reg false [p (.mov (.v 42)),
 p (.iad 4 (.v 40) (.v 42)),
 p (.load (some 4) (.r 0)),
 p (.alloc 4 (.agg [.fsl .nil 1 [],.int .i64 0,.int .i64 0,.int .i64 0])),
 p (.mov (.r 3)),
 p (.store (some 4) (.r 1) (.r 2))] [(2,.v 2),(5,.v 5),(8,.v 8),(9,.r 1),(10,.r 2),(40,.v 40),(41,.v 41),(42,.v 42)])
 (.seq
 (.reg false [p (.mov (.v 5)),
 p (.mov (.v 9)),
 p (.iad 1 (.r 1) (.r 0)),
 p (.load (none) (.r 0))] [(2,.v 2),(5,.v 5),(8,.v 8),(10,.v 10),(40,.v 40),(41,.v 41),(42,.v 42),(50,.r 0)])
 (.cond (.v 50)
 (.seq
 (.reg false [p (.fad 0 (.v 10)),
 p (.load (none) (.r 0)),
 p (.len false (.r 0)),
 p (.mov (.k (.int .i64 0)))] [(2,.v 2),(5,.v 5),(8,.v 8),(40,.v 40),(41,.v 41),(42,.v 42),(52,.r 2),(53,.r 1),(54,.r 0)])
 (.block 6
 (.loop
 (.seq
 (.reg false [p (.bin .lss (.v 54) (.v 53))] [(2,.v 2),(5,.v 5),(8,.v 8),(40,.v 40),(41,.v 41),(42,.v 42),(52,.v 52),(53,.v 53),(54,.v 54),(55,.r 0)])
 (.seq
 (.cond (.v 55)
 .skip
 (.exit 6))
 (.seq
 (.block 7
 (.seq
 (.reg false [p (.iad 1 (.v 52) (.v 54)),
 p (.load (none) (.r 0)),
 p (.mov (.r 0))] [(2,.v 2),(5,.v 5),(8,.v 8),(12,.r 0),(40,.v 40),(41,.v 41),(42,.v 42),(52,.v 52),(53,.v 53),(54,.v 54)])
 (.reg false [p (.mov (.v 5)),
 p (.mov (.v 12)),
 p (.iad 1 (.r 1) (.r 0)),
 p (.store (none) (.r 0) (.k (.bool true)))] [(2,.v 2),(5,.v 5),(8,.v 8),(40,.v 40),(41,.v 41),(42,.v 42),(52,.v 52),(53,.v 53),(54,.v 54)])))
 (.reg false [p (.bin .add (.v 54) (.k (.int .i64 1))),
 p (.mov (.r 0))] [(2,.v 2),(5,.v 5),(8,.v 8),(40,.v 40),(41,.v 41),(42,.v 42),(52,.v 52),(53,.v 53),(54,.r 0)])))))))
 .skip))))
 (.frz
 (.reg false [p (.bin .add (.v 42) (.k (.int .i64 1))),
 p (.mov (.r 0))] [(2,.v 2),(5,.v 5),(8,.v 8),(40,.v 40),(41,.v 41),(42,.r 0)])))))))))
 (.frz
 (.reg false [p (.mov (.v 8)),
 p (.bin .add (.r 0) (.k (.int .i64 1))),
 p (.mov (.r 0))] [(2,.v 2),(5,.v 5),(8,.r 0)])))))))
 (.frz
 (.seq
 (.reg false [p (.mov (.v 5)),
 p (.mov (.r 0))] [(4,.r 0)])
 .ret)))))))
def r108:List RV:=[.t 4]
theorem en108:EnP Tryz.prog 108 64 c108 r108:=mkEnP (by kernel_rfl) Tryz.func108 (by kernel_rfl) ⟨_,rfl,by kernel_rfl,by kernel_rfl⟩
def c79:C :=
  (.seq
 (.reg false [p (.box 2 (.v 0)),
 p (.mov (.k (.int .i64 0)))] [(1,.r 1)])
 (.seq
 (.seq
 (.reg false [p (.fad 1 (.v 1)),
 p (.load (none) (.r 0)),
 p (.len false (.r 0)),
 p (.bin .gtr (.r 0) (.k (.int .i64 10)))] [(1,.v 1),(8,.r 0)])
 (.cond (.v 8)
 (.seq
 (.reg false [p (.mov (.k (.int .i64 2)))] [(2,.r 0)])
 .ret)
 .skip))
 (.seq
 (.seq
 (.reg false [p (.load (some 2) (.v 1)),
 p (.call true (.k (.fn 107 [] [])) [.r 0]),
 p (.un .not (.r 0))] [(1,.v 1),(11,.r 0)])
 (.cond (.v 11)
 (.seq
 (.reg false [p (.mov (.k (.int .i64 1)))] [(2,.r 0)])
 .ret)
 .skip))
 (.seq
 (.seq
 (.reg false [p (.fad 1 (.v 1)),
 p (.load (none) (.r 0)),
 p (.len false (.r 0)),
 p (.mov (.k (.int .i64 0)))] [(1,.v 1),(14,.r 1),(15,.r 0)])
 (.block 0
 (.loop
 (.seq
 (.reg false [p (.bin .lss (.v 15) (.v 14))] [(1,.v 1),(14,.v 14),(15,.v 15),(16,.r 0)])
 (.seq
 (.cond (.v 16)
 .skip
 (.exit 0))
 (.seq
 (.block 1
 (.seq
 (.reg false [p (.mov (.v 15)),
 p (.mov (.r 0))] [(1,.v 1),(3,.r 0),(14,.v 14),(15,.v 15)])
 (.seq
 (.reg false [p (.load (some 2) (.v 1)),
 p (.mov (.v 3)),
 p (.call true (.k (.fn 108 [] [])) [.r 1,.r 0]),
 p (.mov (.r 0))] [(1,.v 1),(3,.v 3),(4,.r 0),(14,.v 14),(15,.v 15)])
 (.seq
 (.reg false [p (.mov (.v 4)),
 p (.mov (.v 3)),
 p (.iad 1 (.r 1) (.r 0)),
 p (.load (none) (.r 0))] [(1,.v 1),(14,.v 14),(15,.v 15),(24,.r 0)])
 (.cond (.v 24)
 (.seq
 (.reg false [p (.mov (.k (.int .i64 160)))] [(2,.r 0)])
 .ret)
 .skip)))))
 (.reg false [p (.bin .add (.v 15) (.k (.int .i64 1))),
 p (.mov (.r 0))] [(1,.v 1),(14,.v 14),(15,.r 0)])))))))
 (.frz
 (.seq
 (.reg false [p (.mov (.k (.int .i64 0)))] [(2,.r 0)])
 .ret))))))
def r79:List RV:=[.t 2]
theorem en79:EnP Tryz.prog 79 26 c79 r79:=mkEnP (by kernel_rfl) Tryz.func79 (by kernel_rfl) ⟨_,rfl,by kernel_rfl,by kernel_rfl⟩
def c90:C :=
  (.seq
 (.reg false [p (.mov (.v 1)),
 p (.mov (.v 2)),
 p (.call true (.k (.fn 120 [] [])) [.r 1,.r 0]),
 p (.mov (.r 0)),
 p (.ext (.r 0) 0),
 p (.ext (.r 1) 1),
 p (.mov (.r 1)),
 p (.mov (.r 1))] [(0,.v 0),(6,.r 1),(7,.r 0)])
 (.reg true [p (.mov (.v 0)),
 p (.mov (.v 0)),
 p (.mov (.v 0)),
 p (.nck (.r 0)),
 p (.fad 0 (.r 0)),
 p (.load (none) (.r 0)),
 p (.mov (.v 6)),
 p (.bsl 1 [.r 1,.r 0]),
 p (.call true (.k (.fn 92 [] [])) [.r 0]),
 p (.mov (.v 0)),
 p (.nck (.r 0)),
 p (.fad 1 (.r 0)),
 p (.load (none) (.r 0)),
 p (.mov (.r 0)),
 ⟨.mov (.v 7),some (0,false),[]⟩,
 ⟨.bin .neq (.r 0) (.k (.int .i64 0)),some (1,false),[]⟩,
 p (.pick (.r 2) (.k (.bool true)) (.r 0)),
 p (.nck (.r 16)),
 p (.fad 0 (.r 0)),
 p (.store (none) (.r 0) (.r 10)),
 p (.nck (.r 18)),
 p (.fad 1 (.r 0)),
 p (.store (none) (.r 0) (.r 5))] []))
def r90:List RV:=[]
theorem chk90:Chk Tryz.prog Tryz.f90 c90 r90:=⟨_,rfl,by kernel_rfl,by kernel_rfl⟩
theorem ena90:EnA Tryz.prog 90 35 c90 r90:=mkEnA (by kernel_rfl) Tryz.func90 (by kernel_rfl) chk90
def c93:C :=
  (.seq
 (.reg false [p (.mov (.v 1)),
 p (.call true (.k (.fn 121 [] [])) [.r 0]),
 p (.mov (.r 0)),
 p (.ext (.r 0) 0),
 p (.ext (.r 1) 1),
 p (.mov (.r 1)),
 p (.mov (.r 1))] [(0,.v 0),(1,.v 1),(4,.r 1),(5,.r 0)])
 (.reg true [p (.mov (.v 0)),
 p (.mov (.v 0)),
 p (.mov (.v 0)),
 p (.nck (.r 0)),
 p (.fad 0 (.r 0)),
 p (.load (none) (.r 0)),
 p (.mov (.v 4)),
 p (.bsl 1 [.r 1,.r 0]),
 p (.call true (.k (.fn 92 [] [])) [.r 0]),
 p (.mov (.v 0)),
 p (.nck (.r 0)),
 p (.fad 1 (.r 0)),
 p (.load (none) (.r 0)),
 p (.mov (.r 0)),
 ⟨.mov (.v 5),some (0,false),[]⟩,
 ⟨.bin .neq (.r 0) (.k (.int .i64 0)),some (1,false),[]⟩,
 p (.pick (.r 2) (.k (.bool true)) (.r 0)),
 p (.mov (.r 0)),
 ⟨.mov (.v 1),some (0,false),[]⟩,
 ⟨.len true (.r 0),some (1,false),[]⟩,
 ⟨.bin .gtr (.r 0) (.k (.int .i64 255)),some (2,false),[]⟩,
 p (.pick (.r 3) (.k (.bool true)) (.r 0)),
 p (.nck (.r 21)),
 p (.fad 0 (.r 0)),
 p (.store (none) (.r 0) (.r 15)),
 p (.nck (.r 23)),
 p (.fad 1 (.r 0)),
 p (.store (none) (.r 0) (.r 5))] []))
def r93:List RV:=[]
theorem chk93:Chk Tryz.prog Tryz.f93 c93 r93:=⟨_,rfl,by kernel_rfl,by kernel_rfl⟩
theorem ena93:EnA Tryz.prog 93 37 c93 r93:=mkEnA (by kernel_rfl) Tryz.func93 (by kernel_rfl) chk93
def c94:C :=
  (.seq
 (.reg false [p (.mov (.k (.str []))),
 p (.mov (.k (.int .i64 0)))] [(0,.v 0)])
 (.seq
 (.seq
 (.reg false [p (.mov (.v 0)),
 p (.nck (.r 0)),
 p (.fad 1 (.r 0)),
 p (.load (none) (.r 0))] [(0,.v 0),(7,.r 0)])
 (.cond (.v 7)
 (.seq
 (.reg false [p (.mov (.k (.str []))),
 p (.mov (.k (.int .i64 1)))] [(2,.r 1),(3,.r 0)])
 .ret)
 .skip))
 (.seq
 (.reg false [p (.mov (.v 0)),
 p (.nck (.r 0)),
 p (.fad 0 (.r 0)),
 p (.load (none) (.r 0)),
 p (.call true (.k (.fn 123 [] [])) [.r 0]),
 p (.mov (.r 0)),
 p (.mov (.k (.int .i64 0)))] [(2,.r 1),(3,.r 0)])
 .ret)))
def r94:List RV:=[.t 2,.t 3]
theorem chk94:Chk Tryz.prog Tryz.f94 c94 r94:=⟨_,rfl,by kernel_rfl,by kernel_rfl⟩
theorem ena94:EnA Tryz.prog 94 13 c94 r94:=mkEnA (by kernel_rfl) Tryz.func94 (by kernel_rfl) chk94
def c77:C :=
  (.seq
 (.reg false [p (.mov (.k (.bool false)))] [(0,.v 0)])
 (.seq
 (.reg false [p (.mov (.v 0)),
 p (.bin .geq (.r 0) (.k (.int .i64 0))),
 p (.mov (.r 0)),
 ⟨.mov (.v 0),some (0,true),[]⟩,
 ⟨.bin .lss (.r 0) (.k (.int .i64 281474976710656)),some (1,true),[]⟩,
 p (.pick (.r 2) (.r 0) (.k (.bool false))),
 p (.mov (.r 0))] [(2,.r 0)])
 .ret))
def r77:List RV:=[.t 2]
theorem en77:EnP Tryz.prog 77 9 c77 r77:=mkEnP (by kernel_rfl) Tryz.func77 (by kernel_rfl) ⟨_,rfl,by kernel_rfl,by kernel_rfl⟩
def c81:C :=
  (.seq
 (.reg false [p (.mov (.k (.str [])))] [(0,.v 0)])
 (.seq
 (.reg false [p (.mov (.v 0)),
 p (.call true (.k (.fn 109 [] [])) [.r 0]),
 p (.mov (.r 0)),
 p (.ext (.r 0) 0),
 p (.ext (.r 1) 1),
 p (.mov (.r 1)),
 p (.mov (.r 1))] [(3,.r 1)])
 (.seq
 (.reg false [p (.mov (.v 3)),
 p (.mov (.r 0))] [(2,.r 0)])
 .ret)))
def r81:List RV:=[.t 2]
theorem en81:EnP Tryz.prog 81 11 c81 r81:=mkEnP (by kernel_rfl) Tryz.func81 (by kernel_rfl) ⟨_,rfl,by kernel_rfl,by kernel_rfl⟩
def c82:C :=
  (.seq
 (.reg false [p (.mov (.k (.str [])))] [(0,.v 0),(1,.v 1)])
 (.seq
 (.reg false [p (.mov (.v 0)),
 p (.mov (.v 1)),
 p (.call true (.k (.fn 111 [] [])) [.r 1,.r 0]),
 p (.mov (.r 0)),
 p (.ext (.r 0) 0),
 p (.ext (.r 1) 1),
 p (.mov (.r 1)),
 p (.mov (.r 1))] [(5,.r 1)])
 (.seq
 (.reg false [p (.mov (.v 5)),
 p (.mov (.r 0))] [(4,.r 0)])
 .ret)))
def r82:List RV:=[.t 4]
theorem en82:EnP Tryz.prog 82 14 c82 r82:=mkEnP (by kernel_rfl) Tryz.func82 (by kernel_rfl) ⟨_,rfl,by kernel_rfl,by kernel_rfl⟩
def c119:C :=
  (.seq
 (.reg false [p (.box 8 (.v 0)),
 p (.alloc 8 (.agg [.int .i64 0,.str [],.str [],.int .i64 0,.int .i64 0,.str [],.str [],.fsl .nil 4 []]))] [(1,.r 1),(2,.r 0)])
 (.seq
 (.reg false [p (.fad 0 (.v 1)),
 p (.load (none) (.r 0)),
 p (.build [.int .i64 0,.str [],.str [],.int .i64 0,.int .i64 0,.str [],.str [],.fsl .nil 4 []] [(0,1,.r 0)]),
 p (.alloc 8 (.agg [.int .i64 0,.str [],.str [],.int .i64 0,.int .i64 0,.str [],.str [],.fsl .nil 4 []])),
 p (.store (some 8) (.r 0) (.r 1))] [(1,.v 1),(2,.v 2),(3,.r 1)])
 (.seq
 (.seq
 (.reg false [p (.fad 0 (.v 1)),
 p (.load (none) (.r 0))] [(1,.v 1),(2,.v 2),(3,.v 3),(8,.r 0)])
 (.block 0
 (.seq
 (.reg false [p (.bin .eql (.v 8) (.k (.int .i64 1))),
 p (.mov (.r 0))] [(1,.v 1),(2,.v 2),(3,.v 3),(8,.v 8),(9,.r 0)])
 (.cond (.v 9)
 (.reg false [p (.fad 6 (.v 1)),
 p (.load (some 2) (.r 0)),
 p (.fad 6 (.v 3)),
 p (.store (some 2) (.r 0) (.r 1))] [(2,.v 2),(3,.v 3)])
 (.seq
 (.reg false [p (.bin .eql (.v 8) (.k (.int .i64 2))),
 p (.mov (.r 0))] [(1,.v 1),(2,.v 2),(3,.v 3),(8,.v 8),(14,.r 0)])
 (.cond (.v 14)
 (.reg true [p (.fad 1 (.v 1)),
 p (.load (none) (.r 0)),
 p (.fad 2 (.v 1)),
 p (.load (none) (.r 0)),
 p (.fad 1 (.v 3)),
 ⟨.store (none) (.r 0) (.r 3),none,[1]⟩,
 p (.fad 2 (.v 3)),
 p (.store (none) (.r 0) (.r 3))] [(2,.v 2),(3,.v 3)])
 (.seq
 (.seq
 (.reg false [p (.bin .eql (.v 8) (.k (.int .i64 4))),
 p (.mov (.r 0))] [(1,.v 1),(2,.v 2),(3,.v 3),(8,.v 8),(22,.r 0)])
 (.cond (.v 22)
 .skip
 (.reg false [p (.bin .eql (.v 8) (.k (.int .i64 6))),
 p (.mov (.r 0))] [(1,.v 1),(2,.v 2),(3,.v 3),(8,.v 8),(22,.r 0)])))
 (.cond (.v 22)
 (.reg false [p (.fad 3 (.v 1)),
 p (.load (none) (.r 0)),
 p (.fad 3 (.v 3)),
 p (.store (none) (.r 0) (.r 1))] [(2,.v 2),(3,.v 3)])
 (.seq
 (.reg false [p (.bin .eql (.v 8) (.k (.int .i64 5))),
 p (.mov (.r 0))] [(1,.v 1),(2,.v 2),(3,.v 3),(8,.v 8),(28,.r 0)])
 (.cond (.v 28)
 (.reg true [p (.fad 3 (.v 1)),
 p (.load (none) (.r 0)),
 p (.fad 5 (.v 1)),
 p (.load (none) (.r 0)),
 p (.fad 3 (.v 3)),
 ⟨.store (none) (.r 0) (.r 3),none,[1]⟩,
 p (.fad 5 (.v 3)),
 p (.store (none) (.r 0) (.r 3))] [(2,.v 2),(3,.v 3)])
 (.seq
 (.seq
 (.reg false [p (.bin .eql (.v 8) (.k (.int .i64 7))),
 p (.mov (.r 0))] [(1,.v 1),(2,.v 2),(3,.v 3),(8,.v 8),(36,.r 0)])
 (.cond (.v 36)
 .skip
 (.reg false [p (.bin .eql (.v 8) (.k (.int .i64 9))),
 p (.mov (.r 0))] [(1,.v 1),(2,.v 2),(3,.v 3),(8,.v 8),(36,.r 0)])))
 (.cond (.v 36)
 (.reg false [p (.fad 1 (.v 1)),
 p (.load (none) (.r 0)),
 p (.fad 1 (.v 3)),
 p (.store (none) (.r 0) (.r 1))] [(2,.v 2),(3,.v 3)])
 (.seq
 (.reg false [p (.bin .eql (.v 8) (.k (.int .i64 8))),
 p (.mov (.r 0))] [(1,.v 1),(2,.v 2),(3,.v 3),(42,.r 0)])
 (.cond (.v 42)
 (.reg false [p (.fad 4 (.v 1)),
 p (.load (none) (.r 0)),
 p (.fad 4 (.v 3)),
 p (.store (none) (.r 0) (.r 1))] [(2,.v 2),(3,.v 3)])
 .skip))))))))))))))
 (.seq
 (.reg false [p (.load (some 8) (.v 3)),
 p (.store (some 8) (.v 2) (.r 0))] [(2,.v 2)])
 .ret))))
def r119:List RV:=[.c 2 (some 8)]
theorem en119:EnP Tryz.prog 119 48 c119 r119:=mkEnP (by kernel_rfl) Tryz.func119 (by kernel_rfl) ⟨_,rfl,by kernel_rfl,by kernel_rfl⟩
def c89:C :=
  (.seq
 (.reg false [p (.box 8 (.v 0)),
 p (.mov (.k (.bool false)))] [(1,.r 1)])
 (.seq
 (.reg false [p (.load (some 8) (.v 1)),
 p (.call true (.k (.fn 119 [] [])) [.r 0]),
 p (.alloc 8 (.agg [.int .i64 0,.str [],.str [],.int .i64 0,.int .i64 0,.str [],.str [],.fsl .nil 4 []])),
 p (.store (some 8) (.r 0) (.r 1))] [(1,.v 1),(3,.r 1)])
 (.seq
 (.reg false [p (.fad 1 (.v 3)),
 p (.load (none) (.r 0)),
 p (.fad 1 (.v 1)),
 p (.load (none) (.r 0)),
 p (.bin .eql (.r 2) (.r 0)),
 p (.mov (.r 0)),
 ⟨.fad 2 (.v 3),some (0,true),[]⟩,
 ⟨.load (none) (.r 0),some (1,true),[]⟩,
 ⟨.fad 2 (.v 1),some (2,true),[]⟩,
 ⟨.load (none) (.r 0),some (3,true),[]⟩,
 ⟨.bin .eql (.r 2) (.r 0),some (4,true),[]⟩,
 p (.pick (.r 5) (.r 0) (.k (.bool false))),
 p (.mov (.r 0)),
 ⟨.fad 3 (.v 3),some (0,true),[]⟩,
 ⟨.load (none) (.r 0),some (1,true),[]⟩,
 ⟨.fad 3 (.v 1),some (2,true),[]⟩,
 ⟨.load (none) (.r 0),some (3,true),[]⟩,
 ⟨.bin .eql (.r 2) (.r 0),some (4,true),[]⟩,
 p (.pick (.r 5) (.r 0) (.k (.bool false))),
 p (.mov (.r 0)),
 ⟨.fad 4 (.v 3),some (0,true),[]⟩,
 ⟨.load (none) (.r 0),some (1,true),[]⟩,
 ⟨.fad 4 (.v 1),some (2,true),[]⟩,
 ⟨.load (none) (.r 0),some (3,true),[]⟩,
 ⟨.bin .eql (.r 2) (.r 0),some (4,true),[]⟩,
 p (.pick (.r 5) (.r 0) (.k (.bool false))),
 p (.mov (.r 0)),
 ⟨.fad 5 (.v 3),some (0,true),[]⟩,
 ⟨.load (none) (.r 0),some (1,true),[]⟩,
 ⟨.fad 5 (.v 1),some (2,true),[]⟩,
 ⟨.load (none) (.r 0),some (3,true),[]⟩,
 ⟨.bin .eql (.r 2) (.r 0),some (4,true),[]⟩,
 p (.pick (.r 5) (.r 0) (.k (.bool false))),
 p (.mov (.r 0)),
 ⟨.fad 6 (.v 3),some (0,true),[]⟩,
 ⟨.fad 0 (.r 0),some (1,true),[]⟩,
 ⟨.load (none) (.r 0),some (2,true),[]⟩,
 ⟨.fad 6 (.v 1),some (3,true),[]⟩,
 ⟨.fad 0 (.r 0),some (4,true),[]⟩,
 ⟨.load (none) (.r 0),some (5,true),[]⟩,
 ⟨.bin .eql (.r 3) (.r 0),some (6,true),[]⟩,
 p (.pick (.r 7) (.r 0) (.k (.bool false))),
 p (.mov (.r 0)),
 ⟨.fad 6 (.v 3),some (0,true),[]⟩,
 ⟨.fad 1 (.r 0),some (1,true),[]⟩,
 ⟨.load (none) (.r 0),some (2,true),[]⟩,
 ⟨.len false (.r 0),some (3,true),[]⟩,
 ⟨.fad 6 (.v 1),some (4,true),[]⟩,
 ⟨.fad 1 (.r 0),some (5,true),[]⟩,
 ⟨.load (none) (.r 0),some (6,true),[]⟩,
 ⟨.len false (.r 0),some (7,true),[]⟩,
 ⟨.bin .eql (.r 4) (.r 0),some (8,true),[]⟩,
 p (.pick (.r 9) (.r 0) (.k (.bool false))),
 p (.mov (.r 0))] [(2,.r 0)])
 .ret)))
def r89:List RV:=[.t 2]
theorem en89:EnP Tryz.prog 89 59 c89 r89:=mkEnP (by kernel_rfl) Tryz.func89 (by kernel_rfl) ⟨_,rfl,by kernel_rfl,by kernel_rfl⟩
def c62:C :=
  (.seq
 (.reg false [p (.box 8 (.v 0)),
 p (.mov (.k (.str []))),
 p (.mov (.k (.int .i64 0)))] [(1,.r 2)])
 (.seq
 (.seq
 (.reg false [p (.fad 0 (.v 1)),
 p (.load (none) (.r 0)),
 p (.bin .lss (.r 0) (.k (.int .i64 1))),
 p (.mov (.r 0)),
 ⟨.fad 0 (.v 1),some (0,false),[]⟩,
 ⟨.load (none) (.r 0),some (1,false),[]⟩,
 ⟨.bin .gtr (.r 0) (.k (.int .i64 10)),some (2,false),[]⟩,
 p (.pick (.r 3) (.k (.bool true)) (.r 0)),
 p (.mov (.r 0)),
 ⟨.load (some 8) (.v 1),some (0,false),[]⟩,
 ⟨.call true (.k (.fn 89 [] [])) [.r 0],some (1,false),[]⟩,
 ⟨.un .not (.r 0),some (2,false),[]⟩,
 p (.pick (.r 3) (.k (.bool true)) (.r 0))] [(1,.v 1),(19,.r 0)])
 (.cond (.v 19)
 (.seq
 (.reg false [p (.mov (.k (.str []))),
 p (.mov (.k (.int .i64 1)))] [(2,.r 1),(3,.r 0)])
 .ret)
 .skip))
 (.seq
 (.reg false [p (.build [.str [],.bool false] []),
 p (.box 2 (.r 0)),
 p (.mov (.r 0))] [(1,.v 1),(4,.r 0)])
 (.seq
 (.reg false [p (.mov (.v 4)),
 p (.fad 0 (.v 1)),
 p (.load (none) (.r 0)),
 p (.call false (.k (.fn 90 [] [])) [.r 2,.r 0,.k (.int .i64 1)])] [(1,.v 1),(4,.v 4)])
 (.seq
 (.seq
 (.reg false [p (.fad 0 (.v 1)),
 p (.load (none) (.r 0))] [(1,.v 1),(4,.v 4),(27,.r 0)])
 (.block 0
 (.seq
 (.reg false [p (.bin .eql (.v 27) (.k (.int .i64 1))),
 p (.mov (.r 0))] [(1,.v 1),(4,.v 4),(27,.v 27),(28,.r 0)])
 (.cond (.v 28)
 (.seq
 (.reg false [p (.fad 6 (.v 1)),
 p (.load (some 2) (.r 0)),
 p (.call true (.k (.fn 91 [] [])) [.r 0]),
 p (.mov (.r 0)),
 p (.ext (.r 0) 0),
 p (.ext (.r 1) 1),
 p (.mov (.r 1)),
 p (.mov (.r 1))] [(4,.v 4),(5,.r 1),(6,.r 0)])
 (.reg true [p (.mov (.v 4)),
 p (.mov (.v 4)),
 p (.mov (.v 4)),
 p (.nck (.r 0)),
 p (.fad 0 (.r 0)),
 p (.load (none) (.r 0)),
 p (.mov (.v 5)),
 p (.bsl 1 [.r 1,.r 0]),
 p (.call true (.k (.fn 92 [] [])) [.r 0]),
 p (.mov (.v 4)),
 p (.nck (.r 0)),
 p (.fad 1 (.r 0)),
 p (.load (none) (.r 0)),
 p (.mov (.r 0)),
 ⟨.mov (.v 6),some (0,false),[]⟩,
 ⟨.bin .neq (.r 0) (.k (.int .i64 0)),some (1,false),[]⟩,
 p (.pick (.r 2) (.k (.bool true)) (.r 0)),
 p (.nck (.r 16)),
 p (.fad 0 (.r 0)),
 p (.store (none) (.r 0) (.r 10)),
 p (.nck (.r 18)),
 p (.fad 1 (.r 0)),
 p (.store (none) (.r 0) (.r 5))] [(4,.v 4)]))
 (.seq
 (.reg false [p (.bin .eql (.v 27) (.k (.int .i64 2))),
 p (.mov (.r 0))] [(1,.v 1),(4,.v 4),(27,.v 27),(57,.r 0)])
 (.cond (.v 57)
 (.seq
 (.reg false [p (.mov (.v 4)),
 p (.fad 1 (.v 1)),
 p (.load (none) (.r 0)),
 p (.call false (.k (.fn 93 [] [])) [.r 2,.r 0])] [(1,.v 1),(4,.v 4)])
 (.reg false [p (.mov (.v 4)),
 p (.fad 2 (.v 1)),
 p (.load (none) (.r 0)),
 p (.call false (.k (.fn 93 [] [])) [.r 2,.r 0])] [(4,.v 4)]))
 (.seq
 (.seq
 (.reg false [p (.bin .eql (.v 27) (.k (.int .i64 4))),
 p (.mov (.r 0))] [(1,.v 1),(4,.v 4),(27,.v 27),(67,.r 0)])
 (.cond (.v 67)
 .skip
 (.reg false [p (.bin .eql (.v 27) (.k (.int .i64 6))),
 p (.mov (.r 0))] [(1,.v 1),(4,.v 4),(27,.v 27),(67,.r 0)])))
 (.cond (.v 67)
 (.reg false [p (.mov (.v 4)),
 p (.fad 3 (.v 1)),
 p (.load (none) (.r 0)),
 p (.call false (.k (.fn 90 [] [])) [.r 2,.r 0,.k (.int .i64 6)])] [(4,.v 4)])
 (.seq
 (.reg false [p (.bin .eql (.v 27) (.k (.int .i64 5))),
 p (.mov (.r 0))] [(1,.v 1),(4,.v 4),(27,.v 27),(74,.r 0)])
 (.cond (.v 74)
 (.seq
 (.reg false [p (.mov (.v 4)),
 p (.fad 3 (.v 1)),
 p (.load (none) (.r 0)),
 p (.call false (.k (.fn 90 [] [])) [.r 2,.r 0,.k (.int .i64 6)])] [(1,.v 1),(4,.v 4)])
 (.reg false [p (.mov (.v 4)),
 p (.fad 5 (.v 1)),
 p (.load (none) (.r 0)),
 p (.call false (.k (.fn 93 [] [])) [.r 2,.r 0])] [(4,.v 4)]))
 (.seq
 (.seq
 (.reg false [p (.bin .eql (.v 27) (.k (.int .i64 7))),
 p (.mov (.r 0))] [(1,.v 1),(4,.v 4),(27,.v 27),(84,.r 0)])
 (.cond (.v 84)
 .skip
 (.reg false [p (.bin .eql (.v 27) (.k (.int .i64 9))),
 p (.mov (.r 0))] [(1,.v 1),(4,.v 4),(27,.v 27),(84,.r 0)])))
 (.cond (.v 84)
 (.reg false [p (.mov (.v 4)),
 p (.fad 1 (.v 1)),
 p (.load (none) (.r 0)),
 p (.call false (.k (.fn 93 [] [])) [.r 2,.r 0])] [(4,.v 4)])
 (.seq
 (.reg false [p (.bin .eql (.v 27) (.k (.int .i64 8))),
 p (.mov (.r 0))] [(1,.v 1),(4,.v 4),(91,.r 0)])
 (.cond (.v 91)
 (.reg false [p (.mov (.v 4)),
 p (.fad 4 (.v 1)),
 p (.load (none) (.r 0)),
 p (.call false (.k (.fn 90 [] [])) [.r 2,.r 0,.k (.int .i64 6)])] [(4,.v 4)])
 .skip))))))))))))))
 (.seq
 (.reg false [p (.mov (.v 4)),
 p (.call false (.k (.fn 94 [] [])) [.r 0]),
 p (.ext (.r 0) 0),
 p (.ext (.r 1) 1),
 p (.mov (.r 1)),
 p (.mov (.r 1))] [(2,.r 1),(3,.r 0)])
 .ret))))))
def r62:List RV:=[.t 2,.t 3]
theorem en62:EnP Tryz.prog 62 101 c62 r62:=mkEnP (by kernel_rfl) Tryz.func62 (by kernel_rfl) ⟨_,rfl,by kernel_rfl,by kernel_rfl⟩
def c122:C :=
  (.seq
 (.reg false [p (.mov (.v 0)),
 p (.mov (.v 1)),
 p (.call true (.k (.fn 120 [] [])) [.r 1,.r 0]),
 p (.mov (.r 0)),
 p (.ext (.r 0) 0),
 p (.ext (.r 1) 1),
 p (.mov (.r 1)),
 p (.mov (.r 1))] [(2,.v 2),(5,.r 1)])
 (.reg false [p (.load (none) (.v 2)),
 p (.mov (.v 5)),
 p (.bsl 1 [.r 1,.r 0]),
 p (.call true (.k (.fn 92 [] [])) [.r 0]),
 p (.store (none) (.v 2) (.r 0))] []))
def r122:List RV:=[]
theorem chk122:Chk Tryz.prog Tryz.f122 c122 r122:=⟨_,rfl,by kernel_rfl,by kernel_rfl⟩
theorem ena122:EnA Tryz.prog 122 17 c122 r122:=mkEnA (by kernel_rfl) Tryz.func122 (by kernel_rfl) chk122
def c91:C :=
  (.seq
 (.reg false [p (.box 2 (.v 0)),
 p (.mov (.k (.str []))),
 p (.mov (.k (.int .i64 0)))] [(1,.r 2)])
 (.seq
 (.seq
 (.reg false [p (.load (some 2) (.v 1)),
 p (.call true (.k (.fn 63 [] [])) [.r 0]),
 p (.mov (.r 0))] [(1,.v 1),(4,.r 0)])
 (.seq
 (.reg false [p (.mov (.v 4)),
 p (.bin .neq (.r 0) (.k (.int .i64 0)))] [(1,.v 1),(4,.v 4),(15,.r 0)])
 (.cond (.v 15)
 (.seq
 (.reg false [p (.mov (.v 4)),
 p (.mov (.k (.str []))),
 p (.mov (.r 1))] [(2,.r 1),(3,.r 0)])
 .ret)
 .skip)))
 (.seq
 (.reg false [p (.fad 0 (.v 1)),
 p (.load (none) (.r 0)),
 p (.call true (.k (.fn 121 [] [])) [.r 0]),
 p (.mov (.r 0)),
 p (.ext (.r 0) 0),
 p (.ext (.r 1) 1),
 p (.alloc 1 (.str [])),
 p (.store (none) (.r 0) (.r 2)),
 p (.mov (.r 2))] [(1,.v 1),(5,.r 2)])
 (.seq
 (.reg false [p (.mkf 122 [] [.v 5]),
 p (.mov (.r 0))] [(1,.v 1),(5,.v 5),(7,.r 0)])
 (.seq
 (.reg false [p (.mov (.v 7)),
 p (.fad 1 (.v 1)),
 p (.load (none) (.r 0)),
 p (.len false (.r 0)),
 p (.call false (.r 3) [.r 0,.k (.int .i64 1)])] [(1,.v 1),(5,.v 5),(7,.v 7)])
 (.seq
 (.seq
 (.reg false [p (.fad 1 (.v 1)),
 p (.load (none) (.r 0)),
 p (.len false (.r 0)),
 p (.mov (.k (.int .i64 0)))] [(5,.v 5),(7,.v 7),(30,.r 2),(31,.r 1),(32,.r 0)])
 (.block 0
 (.loop
 (.seq
 (.reg false [p (.bin .lss (.v 32) (.v 31))] [(5,.v 5),(7,.v 7),(30,.v 30),(31,.v 31),(32,.v 32),(33,.r 0)])
 (.seq
 (.cond (.v 33)
 .skip
 (.exit 0))
 (.seq
 (.block 1
 (.seq
 (.reg false [p (.iad 4 (.v 30) (.v 32)),
 p (.load (some 4) (.r 0)),
 p (.alloc 4 (.agg [.fsl .nil 1 [],.int .i64 0,.int .i64 0,.int .i64 0])),
 p (.store (some 4) (.r 0) (.r 1))] [(5,.v 5),(7,.v 7),(9,.r 1),(30,.v 30),(31,.v 31),(32,.v 32)])
 (.seq
 (.reg false [p (.mov (.v 7)),
 p (.fad 0 (.v 9)),
 p (.load (none) (.r 0)),
 p (.len false (.r 0)),
 p (.call false (.r 3) [.r 0,.k (.int .i64 1)])] [(5,.v 5),(7,.v 7),(9,.v 9),(30,.v 30),(31,.v 31),(32,.v 32)])
 (.seq
 (.seq
 (.reg false [p (.fad 0 (.v 9)),
 p (.load (none) (.r 0)),
 p (.len false (.r 0)),
 p (.mov (.k (.int .i64 0)))] [(5,.v 5),(7,.v 7),(9,.v 9),(30,.v 30),(31,.v 31),(32,.v 32),(42,.r 2),(43,.r 1),(44,.r 0)])
 (.block 2
 (.loop
 (.seq
 (.reg false [p (.bin .lss (.v 44) (.v 43))] [(5,.v 5),(7,.v 7),(9,.v 9),(30,.v 30),(31,.v 31),(32,.v 32),(42,.v 42),(43,.v 43),(44,.v 44),(45,.r 0)])
 (.seq
 (.cond (.v 45)
 .skip
 (.exit 2))
 (.seq
 (.block 3
 (.seq
 (.reg false [p (.iad 1 (.v 42) (.v 44)),
 p (.load (none) (.r 0)),
 p (.mov (.r 0))] [(5,.v 5),(7,.v 7),(9,.v 9),(11,.r 0),(30,.v 30),(31,.v 31),(32,.v 32),(42,.v 42),(43,.v 43),(44,.v 44)])
 (.reg false [p (.mov (.v 7)),
 p (.mov (.v 11)),
 p (.call false (.r 1) [.r 0,.k (.int .i64 1)])] [(5,.v 5),(7,.v 7),(9,.v 9),(30,.v 30),(31,.v 31),(32,.v 32),(42,.v 42),(43,.v 43),(44,.v 44)])))
 (.reg false [p (.bin .add (.v 44) (.k (.int .i64 1))),
 p (.mov (.r 0))] [(5,.v 5),(7,.v 7),(9,.v 9),(30,.v 30),(31,.v 31),(32,.v 32),(42,.v 42),(43,.v 43),(44,.r 0)])))))))
 (.frz
 (.seq
 (.reg false [p (.mov (.v 7)),
 p (.fad 1 (.v 9)),
 p (.load (none) (.r 0)),
 p (.call false (.r 2) [.r 0,.k (.int .i64 1)])] [(5,.v 5),(7,.v 7),(9,.v 9),(30,.v 30),(31,.v 31),(32,.v 32)])
 (.seq
 (.reg false [p (.mov (.v 7)),
 p (.fad 2 (.v 9)),
 p (.load (none) (.r 0)),
 p (.call false (.r 2) [.r 0,.k (.int .i64 3)])] [(5,.v 5),(7,.v 7),(9,.v 9),(30,.v 30),(31,.v 31),(32,.v 32)])
 (.reg false [p (.mov (.v 7)),
 p (.fad 3 (.v 9)),
 p (.load (none) (.r 0)),
 p (.call false (.r 2) [.r 0,.k (.int .i64 3)])] [(5,.v 5),(7,.v 7),(30,.v 30),(31,.v 31),(32,.v 32)]))))))))
 (.frz
 (.reg false [p (.bin .add (.v 32) (.k (.int .i64 1))),
 p (.mov (.r 0))] [(5,.v 5),(7,.v 7),(30,.v 30),(31,.v 31),(32,.r 0)]))))))))
 (.frz
 (.seq
 (.reg false [p (.load (none) (.v 5)),
 p (.mov (.r 0)),
 p (.mov (.k (.int .i64 0)))] [(2,.r 1),(3,.r 0)])
 .ret))))))))
def r91:List RV:=[.t 2,.t 3]
theorem en91:EnP Tryz.prog 91 66 c91 r91:=mkEnP (by kernel_rfl) Tryz.func91 (by kernel_rfl) ⟨_,rfl,by kernel_rfl,by kernel_rfl⟩
def c110:C :=
  (.seq
 (.reg false [p (.mov (.k (.str [])))] [(0,.v 0),(1,.v 1)])
 (.seq
 (.reg false [p (.mov (.v 0)),
 p (.mov (.v 1)),
 p (.call true (.k (.fn 111 [] [])) [.r 1,.r 0]),
 p (.mov (.r 0)),
 p (.ext (.r 0) 0),
 p (.ext (.r 1) 1),
 p (.mov (.r 1)),
 p (.mov (.r 1))] [(5,.r 1)])
 (.seq
 (.reg false [p (.mov (.v 5)),
 p (.mov (.r 0))] [(4,.r 0)])
 .ret)))
def r110:List RV:=[.t 4]
theorem en110:EnP Tryz.prog 110 14 c110 r110:=mkEnP (by kernel_rfl) Tryz.func110 (by kernel_rfl) ⟨_,rfl,by kernel_rfl,by kernel_rfl⟩
def c80:C :=
  (.seq
 (.reg false [p (.box 2 (.v 0)),
 p (.mov (.k (.str [])))] [(1,.r 1)])
 (.seq
 (.reg false [p (.fad 0 (.v 1)),
 p (.load (none) (.r 0)),
 p (.call true (.k (.fn 109 [] [])) [.r 0]),
 p (.mov (.r 0)),
 p (.ext (.r 0) 0),
 p (.ext (.r 1) 1),
 p (.mov (.r 1)),
 p (.mov (.r 1))] [(1,.v 1),(3,.r 1)])
 (.seq
 (.reg false [p (.mov (.v 3)),
 p (.fad 1 (.v 1)),
 p (.load (none) (.r 0)),
 p (.len false (.r 0)),
 p (.call true (.k (.fn 110 [] [])) [.r 0,.k (.int .i64 1)]),
 p (.bin .add (.r 4) (.r 0)),
 p (.mov (.r 0))] [(1,.v 1),(5,.r 0)])
 (.seq
 (.seq
 (.reg false [p (.fad 1 (.v 1)),
 p (.load (none) (.r 0)),
 p (.len false (.r 0)),
 p (.mov (.k (.int .i64 0)))] [(5,.v 5),(23,.r 2),(24,.r 1),(25,.r 0)])
 (.block 0
 (.loop
 (.seq
 (.reg false [p (.bin .lss (.v 25) (.v 24))] [(5,.v 5),(23,.v 23),(24,.v 24),(25,.v 25),(26,.r 0)])
 (.seq
 (.cond (.v 26)
 .skip
 (.exit 0))
 (.seq
 (.block 1
 (.seq
 (.reg false [p (.iad 4 (.v 23) (.v 25)),
 p (.load (some 4) (.r 0)),
 p (.alloc 4 (.agg [.fsl .nil 1 [],.int .i64 0,.int .i64 0,.int .i64 0])),
 p (.store (some 4) (.r 0) (.r 1))] [(5,.v 5),(7,.r 1),(23,.v 23),(24,.v 24),(25,.v 25)])
 (.seq
 (.reg false [p (.mov (.v 5)),
 p (.fad 0 (.v 7)),
 p (.load (none) (.r 0)),
 p (.len false (.r 0)),
 p (.call true (.k (.fn 110 [] [])) [.r 0,.k (.int .i64 1)]),
 p (.bin .add (.r 4) (.r 0)),
 p (.mov (.r 0))] [(5,.r 0),(7,.v 7),(23,.v 23),(24,.v 24),(25,.v 25)])
 (.seq
 (.seq
 (.reg false [p (.fad 0 (.v 7)),
 p (.load (none) (.r 0)),
 p (.len false (.r 0)),
 p (.mov (.k (.int .i64 0)))] [(5,.v 5),(7,.v 7),(23,.v 23),(24,.v 24),(25,.v 25),(36,.r 2),(37,.r 1),(38,.r 0)])
 (.block 2
 (.loop
 (.seq
 (.reg false [p (.bin .lss (.v 38) (.v 37))] [(5,.v 5),(7,.v 7),(23,.v 23),(24,.v 24),(25,.v 25),(36,.v 36),(37,.v 37),(38,.v 38),(39,.r 0)])
 (.seq
 (.cond (.v 39)
 .skip
 (.exit 2))
 (.seq
 (.block 3
 (.seq
 (.reg false [p (.iad 1 (.v 36) (.v 38)),
 p (.load (none) (.r 0)),
 p (.mov (.r 0))] [(5,.v 5),(7,.v 7),(9,.r 0),(23,.v 23),(24,.v 24),(25,.v 25),(36,.v 36),(37,.v 37),(38,.v 38)])
 (.reg false [p (.mov (.v 5)),
 p (.mov (.v 9)),
 p (.call true (.k (.fn 110 [] [])) [.r 0,.k (.int .i64 1)]),
 p (.bin .add (.r 2) (.r 0)),
 p (.mov (.r 0))] [(5,.r 0),(7,.v 7),(23,.v 23),(24,.v 24),(25,.v 25),(36,.v 36),(37,.v 37),(38,.v 38)])))
 (.reg false [p (.bin .add (.v 38) (.k (.int .i64 1))),
 p (.mov (.r 0))] [(5,.v 5),(7,.v 7),(23,.v 23),(24,.v 24),(25,.v 25),(36,.v 36),(37,.v 37),(38,.r 0)])))))))
 (.frz
 (.reg true [p (.mov (.v 5)),
 p (.fad 1 (.v 7)),
 p (.load (none) (.r 0)),
 p (.call true (.k (.fn 110 [] [])) [.r 0,.k (.int .i64 1)]),
 p (.bin .add (.r 3) (.r 0)),
 p (.fad 2 (.v 7)),
 p (.load (none) (.r 0)),
 p (.call true (.k (.fn 110 [] [])) [.r 0,.k (.int .i64 3)]),
 p (.bin .add (.r 3) (.r 0)),
 p (.fad 3 (.v 7)),
 p (.load (none) (.r 0)),
 p (.call true (.k (.fn 110 [] [])) [.r 0,.k (.int .i64 3)]),
 p (.bin .add (.r 3) (.r 0)),
 p (.mov (.r 0))] [(5,.r 0),(23,.v 23),(24,.v 24),(25,.v 25)]))))))
 (.frz
 (.reg false [p (.bin .add (.v 25) (.k (.int .i64 1))),
 p (.mov (.r 0))] [(5,.v 5),(23,.v 23),(24,.v 24),(25,.r 0)]))))))))
 (.frz
 (.seq
 (.reg false [p (.mov (.v 5)),
 p (.mov (.r 0))] [(2,.r 0)])
 .ret))))))
def r80:List RV:=[.t 2]
theorem en80:EnP Tryz.prog 80 62 c80 r80:=mkEnP (by kernel_rfl) Tryz.func80 (by kernel_rfl) ⟨_,rfl,by kernel_rfl,by kernel_rfl⟩
def c23:C :=
  (.seq
 (.reg false [p (.mov (.k (.bool false)))] [(0,.v 0),(1,.v 1)])
 (.seq
 (.seq
 (.reg false [p (.mov (.v 0)),
 p (.len false (.r 0)),
 p (.mov (.v 1)),
 p (.len false (.r 0)),
 p (.bin .neq (.r 2) (.r 0))] [(0,.v 0),(1,.v 1),(10,.r 0)])
 (.cond (.v 10)
 (.seq
 (.reg false [p (.mov (.k (.bool false)))] [(4,.r 0)])
 .ret)
 .skip))
 (.seq
 (.seq
 (.reg false [p (.mov (.v 0)),
 p (.len false (.r 0)),
 p (.mov (.k (.int .i64 0)))] [(0,.v 0),(1,.v 1),(12,.r 1),(13,.r 0)])
 (.block 0
 (.loop
 (.seq
 (.reg false [p (.bin .lss (.v 13) (.v 12))] [(0,.v 0),(1,.v 1),(12,.v 12),(13,.v 13),(14,.r 0)])
 (.seq
 (.cond (.v 14)
 .skip
 (.exit 0))
 (.seq
 (.block 1
 (.seq
 (.reg false [p (.mov (.v 13)),
 p (.mov (.r 0))] [(0,.v 0),(1,.v 1),(5,.r 0),(12,.v 12),(13,.v 13)])
 (.seq
 (.reg true [p (.mov (.v 0)),
 p (.mov (.v 5)),
 p (.iad 1 (.r 1) (.r 0)),
 p (.load (none) (.r 0)),
 p (.mov (.v 1)),
 p (.mov (.v 5)),
 p (.iad 1 (.r 1) (.r 0)),
 p (.load (none) (.r 0)),
 p (.bin .neq (.r 4) (.r 0))] [(0,.v 0),(1,.v 1),(12,.v 12),(13,.v 13),(24,.r 0)])
 (.cond (.v 24)
 (.seq
 (.reg false [p (.mov (.k (.bool false)))] [(4,.r 0)])
 .ret)
 .skip))))
 (.reg false [p (.bin .add (.v 13) (.k (.int .i64 1))),
 p (.mov (.r 0))] [(0,.v 0),(1,.v 1),(12,.v 12),(13,.r 0)])))))))
 (.frz
 (.seq
 (.reg false [p (.mov (.k (.bool true)))] [(4,.r 0)])
 .ret)))))
def r23:List RV:=[.t 4]
theorem en23:EnP Tryz.prog 23 26 c23 r23:=mkEnP (by kernel_rfl) Tryz.func23 (by kernel_rfl) ⟨_,rfl,by kernel_rfl,by kernel_rfl⟩
def c42:C :=
  (.seq
 (.reg false [p (.box 2 (.v 0)),
 p (.box 2 (.v 1)),
 p (.mov (.k (.bool false)))] [(2,.r 2),(3,.r 1)])
 (.seq
 (.seq
 (.reg false [p (.fad 0 (.v 2)),
 p (.load (none) (.r 0)),
 p (.fad 0 (.v 3)),
 p (.load (none) (.r 0)),
 p (.bin .neq (.r 2) (.r 0)),
 p (.mov (.r 0)),
 ⟨.fad 1 (.v 2),some (0,false),[]⟩,
 ⟨.load (none) (.r 0),some (1,false),[]⟩,
 ⟨.len false (.r 0),some (2,false),[]⟩,
 ⟨.fad 1 (.v 3),some (3,false),[]⟩,
 ⟨.load (none) (.r 0),some (4,false),[]⟩,
 ⟨.len false (.r 0),some (5,false),[]⟩,
 ⟨.bin .neq (.r 3) (.r 0),some (6,false),[]⟩,
 p (.pick (.r 7) (.k (.bool true)) (.r 0))] [(2,.v 2),(3,.v 3),(21,.r 0)])
 (.cond (.v 21)
 (.seq
 (.reg false [p (.mov (.k (.bool false)))] [(4,.r 0)])
 .ret)
 .skip))
 (.seq
 (.seq
 (.reg false [p (.fad 1 (.v 2)),
 p (.load (none) (.r 0)),
 p (.len false (.r 0)),
 p (.mov (.k (.int .i64 0)))] [(3,.v 3),(23,.r 2),(24,.r 1),(25,.r 0)])
 (.block 0
 (.loop
 (.seq
 (.reg false [p (.bin .lss (.v 25) (.v 24))] [(3,.v 3),(23,.v 23),(24,.v 24),(25,.v 25),(26,.r 0)])
 (.seq
 (.cond (.v 26)
 .skip
 (.exit 0))
 (.seq
 (.block 1
 (.seq
 (.reg false [p (.mov (.v 25)),
 p (.iad 4 (.v 23) (.v 25)),
 p (.load (some 4) (.r 0)),
 p (.alloc 4 (.agg [.fsl .nil 1 [],.int .i64 0,.int .i64 0,.int .i64 0])),
 p (.mov (.r 3)),
 p (.store (some 4) (.r 1) (.r 2))] [(3,.v 3),(5,.r 1),(6,.r 2),(23,.v 23),(24,.v 24),(25,.v 25)])
 (.seq
 (.reg false [p (.fad 1 (.v 3)),
 p (.load (none) (.r 0)),
 p (.mov (.v 5)),
 p (.iad 4 (.r 1) (.r 0)),
 p (.load (some 4) (.r 0)),
 p (.alloc 4 (.agg [.fsl .nil 1 [],.int .i64 0,.int .i64 0,.int .i64 0])),
 p (.store (some 4) (.r 0) (.r 1))] [(3,.v 3),(6,.v 6),(7,.r 1),(23,.v 23),(24,.v 24),(25,.v 25)])
 (.seq
 (.reg false [p (.fad 0 (.v 6)),
 p (.load (none) (.r 0)),
 p (.fad 0 (.v 7)),
 p (.load (none) (.r 0)),
 p (.call true (.k (.fn 23 [] [])) [.r 2,.r 0]),
 p (.un .not (.r 0)),
 p (.mov (.r 0)),
 ⟨.fad 1 (.v 6),some (0,false),[]⟩,
 ⟨.load (none) (.r 0),some (1,false),[]⟩,
 ⟨.fad 1 (.v 7),some (2,false),[]⟩,
 ⟨.load (none) (.r 0),some (3,false),[]⟩,
 ⟨.bin .neq (.r 2) (.r 0),some (4,false),[]⟩,
 p (.pick (.r 5) (.k (.bool true)) (.r 0)),
 p (.mov (.r 0)),
 ⟨.fad 2 (.v 6),some (0,false),[]⟩,
 ⟨.load (none) (.r 0),some (1,false),[]⟩,
 ⟨.fad 2 (.v 7),some (2,false),[]⟩,
 ⟨.load (none) (.r 0),some (3,false),[]⟩,
 ⟨.bin .neq (.r 2) (.r 0),some (4,false),[]⟩,
 p (.pick (.r 5) (.k (.bool true)) (.r 0)),
 p (.mov (.r 0)),
 ⟨.fad 3 (.v 6),some (0,false),[]⟩,
 ⟨.load (none) (.r 0),some (1,false),[]⟩,
 ⟨.fad 3 (.v 7),some (2,false),[]⟩,
 ⟨.load (none) (.r 0),some (3,false),[]⟩,
 ⟨.bin .neq (.r 2) (.r 0),some (4,false),[]⟩,
 p (.pick (.r 5) (.k (.bool true)) (.r 0))] [(3,.v 3),(23,.v 23),(24,.v 24),(25,.v 25),(61,.r 0)])
 (.cond (.v 61)
 (.seq
 (.reg false [p (.mov (.k (.bool false)))] [(4,.r 0)])
 .ret)
 .skip)))))
 (.reg false [p (.bin .add (.v 25) (.k (.int .i64 1))),
 p (.mov (.r 0))] [(3,.v 3),(23,.v 23),(24,.v 24),(25,.r 0)])))))))
 (.frz
 (.seq
 (.reg false [p (.mov (.k (.bool true)))] [(4,.r 0)])
 .ret)))))
def r42:List RV:=[.t 4]
theorem en42:EnP Tryz.prog 42 63 c42 r42:=mkEnP (by kernel_rfl) Tryz.func42 (by kernel_rfl) ⟨_,rfl,by kernel_rfl,by kernel_rfl⟩
def c78:C :=
  (.seq
 (.reg false [p (.box 8 (.v 0)),
 p (.mov (.k (.bool false)))] [(1,.v 1),(2,.v 2),(3,.v 3),(4,.v 4),(5,.v 5),(6,.v 6),(7,.r 1)])
 (.seq
 (.reg false [p (.mov (.v 1)),
 p (.mov (.r 0)),
 ⟨.fad 1 (.v 7),some (0,true),[]⟩,
 ⟨.load (none) (.r 0),some (1,true),[]⟩,
 ⟨.bin .neq (.r 0) (.k (.str [])),some (2,true),[]⟩,
 p (.pick (.r 3) (.r 0) (.k (.bool false))),
 p (.mov (.r 0)),
 ⟨.mov (.v 2),some (0,false),[]⟩,
 ⟨.mov (.r 0),some (1,false),[]⟩,
 ⟨.fad 2 (.v 7),some (0,true),[]⟩,
 ⟨.load (none) (.r 0),some (1,true),[]⟩,
 ⟨.bin .neq (.r 0) (.k (.str [])),some (2,true),[]⟩,
 ⟨.pick (.r 3) (.r 0) (.k (.bool false)),some (5,false),[]⟩,
 p (.pick (.r 6) (.k (.bool true)) (.r 0)),
 p (.mov (.r 0)),
 ⟨.mov (.v 3),some (0,false),[]⟩,
 ⟨.mov (.r 0),some (1,false),[]⟩,
 ⟨.fad 3 (.v 7),some (0,true),[]⟩,
 ⟨.load (none) (.r 0),some (1,true),[]⟩,
 ⟨.bin .neq (.r 0) (.k (.int .i64 0)),some (2,true),[]⟩,
 ⟨.pick (.r 3) (.r 0) (.k (.bool false)),some (5,false),[]⟩,
 p (.pick (.r 6) (.k (.bool true)) (.r 0)),
 p (.mov (.r 0)),
 ⟨.mov (.v 4),some (0,false),[]⟩,
 ⟨.mov (.r 0),some (1,false),[]⟩,
 ⟨.fad 4 (.v 7),some (0,true),[]⟩,
 ⟨.load (none) (.r 0),some (1,true),[]⟩,
 ⟨.bin .neq (.r 0) (.k (.int .i64 0)),some (2,true),[]⟩,
 ⟨.pick (.r 3) (.r 0) (.k (.bool false)),some (5,false),[]⟩,
 p (.pick (.r 6) (.k (.bool true)) (.r 0)),
 p (.mov (.r 0)),
 ⟨.mov (.v 5),some (0,false),[]⟩,
 ⟨.mov (.r 0),some (1,false),[]⟩,
 ⟨.fad 5 (.v 7),some (0,true),[]⟩,
 ⟨.load (none) (.r 0),some (1,true),[]⟩,
 ⟨.bin .neq (.r 0) (.k (.str [])),some (2,true),[]⟩,
 ⟨.pick (.r 3) (.r 0) (.k (.bool false)),some (5,false),[]⟩,
 p (.pick (.r 6) (.k (.bool true)) (.r 0)),
 p (.mov (.r 0)),
 ⟨.mov (.v 6),some (0,false),[]⟩,
 ⟨.mov (.r 0),some (1,false),[]⟩,
 ⟨.fad 6 (.v 7),some (0,true),[]⟩,
 ⟨.fad 0 (.r 0),some (1,true),[]⟩,
 ⟨.load (none) (.r 0),some (2,true),[]⟩,
 ⟨.bin .neq (.r 0) (.k (.str [])),some (3,true),[]⟩,
 ⟨.mov (.r 0),some (4,true),[]⟩,
 ⟨.fad 6 (.v 7),some (0,false),[]⟩,
 ⟨.fad 1 (.r 0),some (1,false),[]⟩,
 ⟨.load (none) (.r 0),some (2,false),[]⟩,
 ⟨.len false (.r 0),some (3,false),[]⟩,
 ⟨.bin .gtr (.r 0) (.k (.int .i64 0)),some (4,false),[]⟩,
 ⟨.pick (.r 5) (.k (.bool true)) (.r 0),some (10,true),[]⟩,
 ⟨.pick (.r 11) (.r 0) (.k (.bool false)),some (13,false),[]⟩,
 p (.pick (.r 14) (.k (.bool true)) (.r 0)),
 p (.un .not (.r 0)),
 p (.mov (.r 0))] [(14,.r 0)])
 .ret))
def r78:List RV:=[.t 14]
theorem en78:EnP Tryz.prog 78 70 c78 r78:=mkEnP (by kernel_rfl) Tryz.func78 (by kernel_rfl) ⟨_,rfl,by kernel_rfl,by kernel_rfl⟩
def c56:C :=
  (.seq
 (.reg false [p (.box 8 (.v 0)),
 p (.mov (.k (.str []))),
 p (.mov (.k (.int .i64 0)))] [(1,.r 2)])
 (.seq
 (.reg false [p (.mov (.k (.str [])))] [(1,.v 1),(4,.r 0)])
 (.seq
 (.reg false [p (.fad 1 (.v 1)),
 p (.load (none) (.r 0)),
 p (.len true (.r 0)),
 p (.bin .leq (.r 0) (.k (.int .i64 255))),
 p (.mov (.r 0)),
 ⟨.fad 2 (.v 1),some (0,true),[]⟩,
 ⟨.load (none) (.r 0),some (1,true),[]⟩,
 ⟨.len true (.r 0),some (2,true),[]⟩,
 ⟨.bin .leq (.r 0) (.k (.int .i64 255)),some (3,true),[]⟩,
 p (.pick (.r 4) (.r 0) (.k (.bool false))),
 p (.mov (.r 0)),
 ⟨.fad 5 (.v 1),some (0,true),[]⟩,
 ⟨.load (none) (.r 0),some (1,true),[]⟩,
 ⟨.len true (.r 0),some (2,true),[]⟩,
 ⟨.bin .leq (.r 0) (.k (.int .i64 255)),some (3,true),[]⟩,
 p (.pick (.r 4) (.r 0) (.k (.bool false))),
 p (.mov (.r 0)),
 ⟨.fad 3 (.v 1),some (0,true),[]⟩,
 ⟨.load (none) (.r 0),some (1,true),[]⟩,
 ⟨.call true (.k (.fn 77 [] [])) [.r 0],some (2,true),[]⟩,
 p (.pick (.r 3) (.r 0) (.k (.bool false))),
 p (.mov (.r 0)),
 ⟨.fad 4 (.v 1),some (0,true),[]⟩,
 ⟨.load (none) (.r 0),some (1,true),[]⟩,
 ⟨.call true (.k (.fn 77 [] [])) [.r 0],some (2,true),[]⟩,
 p (.pick (.r 3) (.r 0) (.k (.bool false))),
 p (.mov (.r 0))] [(1,.v 1),(4,.v 4),(5,.r 0)])
 (.seq
 (.seq
 (.reg false [p (.fad 0 (.v 1)),
 p (.load (none) (.r 0))] [(1,.v 1),(4,.v 4),(5,.v 5),(33,.r 0)])
 (.block 0
 (.seq
 (.reg false [p (.bin .eql (.v 33) (.k (.int .i64 1))),
 p (.mov (.r 0))] [(1,.v 1),(4,.v 4),(5,.v 5),(33,.v 33),(34,.r 0)])
 (.cond (.v 34)
 (.seq
 (.reg false [p (.mov (.v 5)),
 p (.mov (.r 0)),
 ⟨.load (some 8) (.v 1),some (0,true),[]⟩,
 ⟨.call true (.k (.fn 78 [] [])) [.r 0,.k (.bool true),.k (.bool true),.k (.bool true),.k (.bool true),.k (.bool true),.k (.bool false)],some (1,true),[]⟩,
 p (.pick (.r 2) (.r 0) (.k (.bool false))),
 p (.mov (.r 0)),
 ⟨.fad 6 (.v 1),some (0,true),[]⟩,
 ⟨.load (some 2) (.r 0),some (1,true),[]⟩,
 ⟨.call true (.k (.fn 79 [] [])) [.r 0],some (2,true),[]⟩,
 ⟨.bin .eql (.r 0) (.k (.int .i64 0)),some (3,true),[]⟩,
 p (.pick (.r 4) (.r 0) (.k (.bool false))),
 p (.mov (.r 0))] [(1,.v 1),(4,.v 4),(5,.r 0)])
 (.seq
 (.reg false [p (.mov (.v 5))] [(1,.v 1),(4,.v 4),(5,.v 5),(47,.r 0)])
 (.cond (.v 47)
 (.reg false [p (.fad 6 (.v 1)),
 p (.load (some 2) (.r 0)),
 p (.call true (.k (.fn 80 [] [])) [.r 0]),
 p (.mov (.r 0))] [(1,.v 1),(4,.r 0),(5,.v 5)])
 .skip)))
 (.seq
 (.reg false [p (.bin .eql (.v 33) (.k (.int .i64 2))),
 p (.mov (.r 0))] [(1,.v 1),(4,.v 4),(5,.v 5),(33,.v 33),(51,.r 0)])
 (.cond (.v 51)
 (.seq
 (.reg false [p (.mov (.v 5)),
 p (.mov (.r 0)),
 ⟨.load (some 8) (.v 1),some (0,true),[]⟩,
 ⟨.call true (.k (.fn 78 [] [])) [.r 0,.k (.bool false),.k (.bool false),.k (.bool true),.k (.bool true),.k (.bool true),.k (.bool true)],some (1,true),[]⟩,
 p (.pick (.r 2) (.r 0) (.k (.bool false))),
 p (.mov (.r 0))] [(1,.v 1),(5,.r 0)])
 (.reg true [p (.fad 1 (.v 1)),
 p (.load (none) (.r 0)),
 p (.call true (.k (.fn 81 [] [])) [.r 0]),
 p (.fad 2 (.v 1)),
 p (.load (none) (.r 0)),
 p (.call true (.k (.fn 81 [] [])) [.r 0]),
 p (.bin .add (.r 3) (.r 0)),
 p (.mov (.r 0))] [(1,.v 1),(4,.r 0),(5,.v 5)]))
 (.seq
 (.seq
 (.reg false [p (.bin .eql (.v 33) (.k (.int .i64 4))),
 p (.mov (.r 0))] [(1,.v 1),(4,.v 4),(5,.v 5),(33,.v 33),(65,.r 0)])
 (.cond (.v 65)
 .skip
 (.reg false [p (.bin .eql (.v 33) (.k (.int .i64 6))),
 p (.mov (.r 0))] [(1,.v 1),(4,.v 4),(5,.v 5),(33,.v 33),(65,.r 0)])))
 (.cond (.v 65)
 (.seq
 (.reg false [p (.mov (.v 5)),
 p (.mov (.r 0)),
 ⟨.load (some 8) (.v 1),some (0,true),[]⟩,
 ⟨.call true (.k (.fn 78 [] [])) [.r 0,.k (.bool true),.k (.bool true),.k (.bool false),.k (.bool true),.k (.bool true),.k (.bool true)],some (1,true),[]⟩,
 p (.pick (.r 2) (.r 0) (.k (.bool false))),
 p (.mov (.r 0))] [(1,.v 1),(5,.r 0)])
 (.reg false [p (.fad 3 (.v 1)),
 p (.load (none) (.r 0)),
 p (.call true (.k (.fn 82 [] [])) [.r 0,.k (.int .i64 6)]),
 p (.mov (.r 0))] [(1,.v 1),(4,.r 0),(5,.v 5)]))
 (.seq
 (.reg false [p (.bin .eql (.v 33) (.k (.int .i64 5))),
 p (.mov (.r 0))] [(1,.v 1),(4,.v 4),(5,.v 5),(33,.v 33),(76,.r 0)])
 (.cond (.v 76)
 (.seq
 (.reg false [p (.mov (.v 5)),
 p (.mov (.r 0)),
 ⟨.load (some 8) (.v 1),some (0,true),[]⟩,
 ⟨.call true (.k (.fn 78 [] [])) [.r 0,.k (.bool true),.k (.bool true),.k (.bool false),.k (.bool true),.k (.bool false),.k (.bool true)],some (1,true),[]⟩,
 p (.pick (.r 2) (.r 0) (.k (.bool false))),
 p (.mov (.r 0))] [(1,.v 1),(5,.r 0)])
 (.reg true [p (.fad 3 (.v 1)),
 p (.load (none) (.r 0)),
 p (.call true (.k (.fn 82 [] [])) [.r 0,.k (.int .i64 6)]),
 p (.fad 5 (.v 1)),
 p (.load (none) (.r 0)),
 p (.call true (.k (.fn 81 [] [])) [.r 0]),
 p (.bin .add (.r 3) (.r 0)),
 p (.mov (.r 0))] [(1,.v 1),(4,.r 0),(5,.v 5)]))
 (.seq
 (.seq
 (.reg false [p (.bin .eql (.v 33) (.k (.int .i64 7))),
 p (.mov (.r 0))] [(1,.v 1),(4,.v 4),(5,.v 5),(33,.v 33),(90,.r 0)])
 (.cond (.v 90)
 .skip
 (.reg false [p (.bin .eql (.v 33) (.k (.int .i64 9))),
 p (.mov (.r 0))] [(1,.v 1),(4,.v 4),(5,.v 5),(33,.v 33),(90,.r 0)])))
 (.cond (.v 90)
 (.seq
 (.reg false [p (.mov (.v 5)),
 p (.mov (.r 0)),
 ⟨.load (some 8) (.v 1),some (0,true),[]⟩,
 ⟨.call true (.k (.fn 78 [] [])) [.r 0,.k (.bool false),.k (.bool true),.k (.bool true),.k (.bool true),.k (.bool true),.k (.bool true)],some (1,true),[]⟩,
 p (.pick (.r 2) (.r 0) (.k (.bool false))),
 p (.mov (.r 0))] [(1,.v 1),(5,.r 0)])
 (.reg false [p (.fad 1 (.v 1)),
 p (.load (none) (.r 0)),
 p (.call true (.k (.fn 81 [] [])) [.r 0]),
 p (.mov (.r 0))] [(1,.v 1),(4,.r 0),(5,.v 5)]))
 (.seq
 (.reg false [p (.bin .eql (.v 33) (.k (.int .i64 8))),
 p (.mov (.r 0))] [(1,.v 1),(4,.v 4),(5,.v 5),(33,.v 33),(101,.r 0)])
 (.cond (.v 101)
 (.seq
 (.reg false [p (.mov (.v 5)),
 p (.mov (.r 0)),
 ⟨.load (some 8) (.v 1),some (0,true),[]⟩,
 ⟨.call true (.k (.fn 78 [] [])) [.r 0,.k (.bool true),.k (.bool true),.k (.bool true),.k (.bool false),.k (.bool true),.k (.bool true)],some (1,true),[]⟩,
 p (.pick (.r 2) (.r 0) (.k (.bool false))),
 p (.mov (.r 0))] [(1,.v 1),(5,.r 0)])
 (.reg false [p (.fad 4 (.v 1)),
 p (.load (none) (.r 0)),
 p (.call true (.k (.fn 82 [] [])) [.r 0,.k (.int .i64 6)]),
 p (.mov (.r 0))] [(1,.v 1),(4,.r 0),(5,.v 5)]))
 (.seq
 (.seq
 (.reg false [p (.bin .eql (.v 33) (.k (.int .i64 3))),
 p (.mov (.r 0))] [(1,.v 1),(4,.v 4),(5,.v 5),(33,.v 33),(111,.r 0)])
 (.cond (.v 111)
 .skip
 (.reg false [p (.bin .eql (.v 33) (.k (.int .i64 10))),
 p (.mov (.r 0))] [(1,.v 1),(4,.v 4),(5,.v 5),(111,.r 0)])))
 (.cond (.v 111)
 (.reg false [p (.mov (.v 5)),
 p (.mov (.r 0)),
 ⟨.load (some 8) (.v 1),some (0,true),[]⟩,
 ⟨.call true (.k (.fn 78 [] [])) [.r 0,.k (.bool true),.k (.bool true),.k (.bool true),.k (.bool true),.k (.bool true),.k (.bool true)],some (1,true),[]⟩,
 p (.pick (.r 2) (.r 0) (.k (.bool false))),
 p (.mov (.r 0))] [(1,.v 1),(4,.v 4),(5,.r 0)])
 (.reg false [p (.mov (.k (.bool false)))] [(1,.v 1),(4,.v 4),(5,.r 0)])))))))))))))))))
 (.seq
 (.seq
 (.reg false [p (.mov (.v 5)),
 p (.un .not (.r 0))] [(1,.v 1),(4,.v 4),(120,.r 0)])
 (.cond (.v 120)
 (.seq
 (.reg false [p (.mov (.k (.str []))),
 p (.mov (.k (.int .i64 1)))] [(2,.r 1),(3,.r 0)])
 .ret)
 .skip))
 (.seq
 (.reg false [p (.fad 0 (.v 1)),
 p (.load (none) (.r 0)),
 p (.call true (.k (.fn 82 [] [])) [.r 0,.k (.int .i64 1)]),
 p (.mov (.v 4)),
 p (.bin .add (.r 1) (.r 0)),
 p (.call true (.k (.fn 83 [] [])) [.r 0]),
 p (.mov (.r 0)),
 p (.mov (.k (.int .i64 0)))] [(2,.r 1),(3,.r 0)])
 .ret))))))
def r56:List RV:=[.t 2,.t 3]
theorem en56:EnP Tryz.prog 56 127 c56 r56:=mkEnP (by kernel_rfl) Tryz.func56 (by kernel_rfl) ⟨_,rfl,by kernel_rfl,by kernel_rfl⟩
def c24:C :=
  (.seq
 (.reg false [p (.box 8 (.v 0)),
 p (.box 8 (.v 1)),
 p (.mov (.k (.bool false)))] [(2,.r 2),(3,.r 1)])
 (.seq
 (.reg false [p (.fad 0 (.v 2)),
 p (.load (none) (.r 0)),
 p (.fad 0 (.v 3)),
 p (.load (none) (.r 0)),
 p (.bin .eql (.r 2) (.r 0)),
 p (.mov (.r 0)),
 ⟨.fad 1 (.v 2),some (0,true),[]⟩,
 ⟨.load (none) (.r 0),some (1,true),[]⟩,
 ⟨.fad 1 (.v 3),some (2,true),[]⟩,
 ⟨.load (none) (.r 0),some (3,true),[]⟩,
 ⟨.bin .eql (.r 2) (.r 0),some (4,true),[]⟩,
 p (.pick (.r 5) (.r 0) (.k (.bool false))),
 p (.mov (.r 0)),
 ⟨.fad 2 (.v 2),some (0,true),[]⟩,
 ⟨.load (none) (.r 0),some (1,true),[]⟩,
 ⟨.fad 2 (.v 3),some (2,true),[]⟩,
 ⟨.load (none) (.r 0),some (3,true),[]⟩,
 ⟨.bin .eql (.r 2) (.r 0),some (4,true),[]⟩,
 p (.pick (.r 5) (.r 0) (.k (.bool false))),
 p (.mov (.r 0)),
 ⟨.fad 3 (.v 2),some (0,true),[]⟩,
 ⟨.load (none) (.r 0),some (1,true),[]⟩,
 ⟨.fad 3 (.v 3),some (2,true),[]⟩,
 ⟨.load (none) (.r 0),some (3,true),[]⟩,
 ⟨.bin .eql (.r 2) (.r 0),some (4,true),[]⟩,
 p (.pick (.r 5) (.r 0) (.k (.bool false))),
 p (.mov (.r 0)),
 ⟨.fad 4 (.v 2),some (0,true),[]⟩,
 ⟨.load (none) (.r 0),some (1,true),[]⟩,
 ⟨.fad 4 (.v 3),some (2,true),[]⟩,
 ⟨.load (none) (.r 0),some (3,true),[]⟩,
 ⟨.bin .eql (.r 2) (.r 0),some (4,true),[]⟩,
 p (.pick (.r 5) (.r 0) (.k (.bool false))),
 p (.mov (.r 0)),
 ⟨.fad 5 (.v 2),some (0,true),[]⟩,
 ⟨.load (none) (.r 0),some (1,true),[]⟩,
 ⟨.fad 5 (.v 3),some (2,true),[]⟩,
 ⟨.load (none) (.r 0),some (3,true),[]⟩,
 ⟨.bin .eql (.r 2) (.r 0),some (4,true),[]⟩,
 p (.pick (.r 5) (.r 0) (.k (.bool false))),
 p (.mov (.r 0)),
 ⟨.fad 6 (.v 2),some (0,true),[]⟩,
 ⟨.load (some 2) (.r 0),some (1,true),[]⟩,
 ⟨.fad 6 (.v 3),some (2,true),[]⟩,
 ⟨.load (some 2) (.r 0),some (3,true),[]⟩,
 ⟨.call true (.k (.fn 42 [] [])) [.r 2,.r 0],some (4,true),[]⟩,
 p (.pick (.r 5) (.r 0) (.k (.bool false))),
 p (.mov (.r 0))] [(4,.r 0)])
 .ret))
def r24:List RV:=[.t 4]
theorem en24:EnP Tryz.prog 24 52 c24 r24:=mkEnP (by kernel_rfl) Tryz.func24 (by kernel_rfl) ⟨_,rfl,by kernel_rfl,by kernel_rfl⟩
section
abbrev Str:=List UInt8
structure Task where
  needs:List Int
  tries:Int
  wait:Int
  lease:Int
structure Dag where
  name:Str
  tasks:List Task
structure Cmd where
  kind:Int
  key:Str
  name:Str
  token:Int
  time:Int
  text:Str
  dag:Dag
def vI (l:List Int):List V:=mv (V.int .i64) l
def vB (l:List Bool):List V:=mv V.bool l
def vS (l:List Str):List V:=mv V.str l
def taskV (t:Task):V:=.agg [.fsl .loose 1 (vI t.needs),.int .i64 t.tries,.int .i64 t.wait,.int .i64 t.lease]
def tasksV (l:List Task):V:=.fsl .loose 4 (mv taskV l)
def dagV (d:Dag):V:=.agg [.str d.name,tasksV d.tasks]
def cmdV (c:Cmd):V:=.agg [.int .i64 c.kind,.str c.key,.str c.name,.int .i64 c.token,.int .i64 c.time,.str c.text,.str c.dag.name,tasksV c.dag.tasks]
section
variable {l:List Int}
theorem vI_closed:closedL (vI l)=true:=mv_closed fun _ => rfl
theorem vB_closed {l:List Bool}:closedL (vB l)=true:=mv_closed fun _ => rfl
theorem vS_closed {l:List Str}:closedL (vS l)=true:=mv_closed fun _ => rfl
theorem vI_lo:loL (vI l)=vI l:=mv_lo fun _ => by rw [lo]
theorem vB_lo {l:List Bool}:loL (vB l)=vB l:=mv_lo fun _ => by rw [lo]
theorem vS_lo {l:List Str}:loL (vS l)=vS l:=mv_lo fun _ => by rw [lo]
end
theorem taskV_closed (t:Task):(taskV t).closed=true:=by simp [taskV,V.closed,closedL,vI_closed]
theorem taskV_lo (t:Task):lo (taskV t)=taskV t:=by simp [taskV,lo,loL,vI_lo]
theorem tasksV_closed (l:List Task):(tasksV l).closed=true:=by simp [tasksV,V.closed,mv_closed taskV_closed]
theorem tasksV_lo (l:List Task):lo (tasksV l)=tasksV l:=by simp [tasksV,lo,mv_lo taskV_lo]
theorem dagV_closed (d:Dag):(dagV d).closed=true:=by simp [dagV,V.closed,closedL,tasksV_closed]
theorem cmdV_closed (c:Cmd):(cmdV c).closed=true:=by simp [cmdV,V.closed,closedL,tasksV_closed]
/-! As arguments. -/
def i64 (n:Int):Prop:=-9223372036854775808≤n∧n≤9223372036854775807
end
def riseS:Int→List Int→Int→Bool
  | _,[],_ => true
  | last,x::xs,n => !decide (x≤last) && (!decide (n≤x) && riseS x xs n)
def taskNumS (t:Task):Bool:=decide (1≤t.tries∧t.tries≤8∧0≤t.wait∧t.wait≤1048576∧1≤t.lease∧t.lease≤1048576)
def taskOkS (t:Task) (n:Int):Bool:=riseS (-1) t.needs n && taskNumS t
theorem vI_len (l:List Int):(vI l).length=l.length:=mv_len
theorem vI_get {l:List Int} {i:Nat} (h:i < l.length):(vI l)[i]?=some (.int .i64 l[i]):=mv_get h
theorem vB_len (l:List Bool):(vB l).length=l.length:=mv_len
theorem vB_get {l:List Bool} {i:Nat} (h:i < l.length):(vB l)[i]?=some (.bool l[i]):=mv_get h
theorem dag_task (t:Task) (n:Int) (hl:t.needs.length≤4611686018427387904):PCall Tryz.prog 97 [taskV t,.int .i64 n] (.bool (taskOkS t n)):=by
  refine en97 (by simp) (by simp [closedL,V.closed,taskV_closed]) ?_
  simp (maxSteps:=1000000) (disch:=omega) only [rg,gD,simprocAttr,c97,taskV,vI_len]
  refine x_it t.needs.length (fun i σ H => H.m 0=some (.arr 4 [.agg [.fsl .loose 1 (vI t.needs),.int .i64 t.tries,.int .i64 t.wait,.int .i64 t.lease]])∧∃ last,riseS (-1) t.needs n=riseS last (t.needs.drop i) n∧σ=[(1,.int .i64 n),(2,.ptr 0 0 0),(5,.int .i64 last),(9,.fsl .loose 1 (vI t.needs)),(10,.int .i64 t.needs.length),(11,.int .i64 i)]) ⟨by simp [upd],-1,by simp,rfl⟩ ?_
  rintro T i σ ⟨q,m⟩ hi ⟨e0,last,hr,rfl⟩ hN hX hR
  simp only at e0
  simp (maxSteps:=1000000) (disch:=omega) only [rg,gD,simprocAttr]
  refine ⟨fun h => ?_,fun h => ?_⟩
  · have i1:i < t.needs.length:=by omega
    have hd:t.needs.drop i=t.needs[i]::t.needs.drop (i+1):=List.drop_eq_getElem_cons i1
    rw [hd,riseS] at hr
    simp (maxSteps:=1000000) (disch:=omega) only [rg,gD,simprocAttr,vI_get]
    by_cases c1:t.needs[i]≤last
    · simp (maxSteps:=1000000) (disch:=omega) only [rg,gD,simprocAttr,c1]
      refine hR _ _ ?_
      simp (maxSteps:=1000000) (disch:=omega) only [rg,gD,simprocAttr]
      (refine fin_x rfl ?_ ?_<;>simp [pack,lo,loL,V.closed,closedL,mv_closed,taskOkS,hr,c1])
    · by_cases c2:n≤t.needs[i]
      · simp (maxSteps:=1000000) (disch:=omega) only [rg,gD,simprocAttr,c1,c2]
        refine hR _ _ ?_
        simp (maxSteps:=1000000) (disch:=omega) only [rg,gD,simprocAttr]
        (refine fin_x rfl ?_ ?_<;>simp [pack,lo,loL,V.closed,closedL,mv_closed,taskOkS,hr,c1,c2])
      · simp (maxSteps:=1000000) (disch:=omega) only [rg,gD,simprocAttr,c1,c2]
        exact hN _ _ i1 ⟨e0,t.needs[i],by rw [hr]; simp [c1,c2],rfl⟩
  · obtain rfl:i=t.needs.length:=by omega
    rw [List.drop_length,riseS] at hr
    refine hX _ _ _ ?_
    simp (maxSteps:=1000000) (disch:=omega) only [rg,gD,simprocAttr]
    refine x_frz0 ?_
    by_cases c1:1≤t.tries
    · by_cases c2:t.tries≤8
      · by_cases c3:0≤t.wait
        · by_cases c4:t.wait≤1048576
          · by_cases c5:1≤t.lease
            · by_cases c6:t.lease≤1048576
              · simp (maxSteps:=1000000) (disch:=omega) only [rg,gD,simprocAttr,e0,c1,c2,c3,c4,c5,c6]
                (refine fin_x rfl ?_ ?_<;>simp [pack,lo,loL,V.closed,closedL,mv_closed,taskOkS,taskNumS,hr,c1,c2,c3,c4,c5,c6])
              · simp (maxSteps:=1000000) (disch:=omega) only [rg,gD,simprocAttr,e0,c1,c2,c3,c4,c5,c6]
                (refine fin_x rfl ?_ ?_<;>simp [pack,lo,loL,V.closed,closedL,mv_closed,taskOkS,taskNumS,hr,c6])
            · simp (maxSteps:=1000000) (disch:=omega) only [rg,gD,simprocAttr,e0,c1,c2,c3,c4,c5]
              (refine fin_x rfl ?_ ?_<;>simp [pack,lo,loL,V.closed,closedL,mv_closed,taskOkS,taskNumS,hr,c5])
          · simp (maxSteps:=1000000) (disch:=omega) only [rg,gD,simprocAttr,e0,c1,c2,c3,c4]
            (refine fin_x rfl ?_ ?_<;>simp [pack,lo,loL,V.closed,closedL,mv_closed,taskOkS,taskNumS,hr,c4])
        · simp (maxSteps:=1000000) (disch:=omega) only [rg,gD,simprocAttr,e0,c1,c2,c3]
          (refine fin_x rfl ?_ ?_<;>simp [pack,lo,loL,V.closed,closedL,mv_closed,taskOkS,taskNumS,hr,c3])
      · simp (maxSteps:=1000000) (disch:=omega) only [rg,gD,simprocAttr,e0,c1,c2]
        (refine fin_x rfl ?_ ?_<;>simp [pack,lo,loL,V.closed,closedL,mv_closed,taskOkS,taskNumS,hr,c2])
    · simp (maxSteps:=1000000) (disch:=omega) only [rg,gD,simprocAttr,e0,c1]
      (refine fin_x rfl ?_ ?_<;>simp [pack,lo,loL,V.closed,closedL,mv_closed,taskOkS,taskNumS,hr,c1])
def freeB (t:Task) (done:List Bool) (i:Nat):Bool:=!done.getD i false && t.needs.all fun x => done.getD x.toNat false
def freeS (ts:List Task) (done:List Bool) (k:Nat):List Int:=(((ts.take k).zipIdx).filter fun p => freeB p.1 done p.2).map fun p => (p.2:Int)
theorem freeS_succ {ts:List Task} {done:List Bool} {k:Nat} (h:k < ts.length):freeS ts done (k+1)=if freeB ts[k] done k=true then freeS ts done k++[(k:Int)] else freeS ts done k:=by
  rw [freeS,List.take_succ_eq_append_getElem h,List.zipIdx_append,List.filter_append,List.map_append]
  have:min k ts.length=k:=by omega
  simp only [List.length_take,this,List.zipIdx_cons,List.zipIdx_nil,List.filter_cons,List.filter_nil,Nat.zero_add]
  split<;>simp [freeS]
theorem freeS_len (ts:List Task) (done:List Bool) (k:Nat):(freeS ts done k).length≤k:=by
  simp only [freeS,List.length_map]
  refine Nat.le_trans (List.length_filter_le _ _) ?_
  simp; omega
theorem free_clo (H:Hp) (b d:Nat) (done:List Bool) (i:Int) (hb:b < H.n) (hd:d < H.n) (h1:H.m b=some (.arr 1 [.sl d 0 done.length])) (h2:H.m d=some (.arr 1 (vB done))) (hi:0≤i∧i < done.length) :
    ACall Tryz.prog 134 [.int .i64 i,.ptr b 0 0] H [b,d] (.bool (!done.getD i.toNat false)) [] 0:=by
  have hne:b≠d:=by rintro rfl; rw [h1] at h2; cases done with
    | nil => simp [vB,mv] at h2
    | cons x l => simp [vB,mv] at h2
  refine ena134 (by simp) (by simp [lowL,V.low,hb]) (fun id hid => ?_) (by simp) ?_
  · simp at hid
    rcases hid with rfl | rfl
    · exact ⟨hb,fun o ho => by rw [h1] at ho; simp at ho; subst ho; simp [Ob.low,lowL,V.low,hd]⟩
    · exact ⟨hd,fun o ho => by rw [h2] at ho; simp at ho; subst ho; exact lowL_closed _ vB_closed⟩
  have q1:only [b,d] H.m b=some (.arr 1 [.sl d 0 done.length]):=by simp [only,h1]
  have q2:only [b,d] H.m d=some (.arr 1 (vB done)):=by simp [only,h2]
  have hlt:i.toNat < done.length:=by omega
  simp (maxSteps:=1000000) (disch:=omega) only [rg,gD,simprocAttr,c134,q1,q2,vB_get]
  refine ⟨by omega,fin_A (l:=[.bool (!done[i.toNat])]) rfl (.inl (by simp [pack,List.getD_eq_getElem?_getD,hlt])) (by simp) (fun id => .inr rfl)⟩
theorem con_ints {st:St} {rows:List Int} {fs cs:List V} {g:Nat} {q:Int→Bool} {H:Hp} {fp:List Nat} {kk:Nat} (hn:rows.length≤1000000) (hl:lowL H.n fs=true) (hl':lowL H.n cs=true) (hfp:FpOk H fp)
    (hg:∀ x∈rows,∀ H':Hp,H.n≤H'.n→(∀ id∈fp,H'.m id=H.m id)→ACall Tryz.prog g (fs++[.int .i64 x]++cs) H' fp (.bool (q x)) [] kk) :
    ACall Tryz.prog 49 [.fsl st 1 (vI rows),.fn g fs cs] H fp (.bool (rows.any q)) [] (rows.length*kk):=by
  have:=con_gen (f:=49) (f2:=61) (sz:=1) (k:=none) (st:=st) (rows:=vI rows) (fs:=fs) (cs:=cs) (g:=g) (q:=fun v => match v with | .int _ n => q n | _ => false) (H:=H) (fp:=fp) (kk:=kk)
    ena49 ena61 (by decide) (by decide) vI_closed (fun e he => by obtain ⟨a,_,rfl⟩:=mv_mem he; rfl) (by rw [vI_len]; omega) hl hl' hfp
    (fun e he H' h1 h2 => by obtain ⟨a,ha,rfl⟩:=mv_mem he; exact hg a ha H' h1 h2)
  rw [vI_len] at this
  have e:(vI rows).any (fun v => match v with | .int _ n => q n | _ => false)=rows.any q:=by simp [vI,mv,List.any_map]; rfl
  rwa [e] at this
def inR (ts:List Task) (n:Nat):Prop:=∀ t∈ts,∀ x∈t.needs,0≤x∧x < n
theorem dag_free (st:St) (ts:List Task) (done:List Bool) (d:Nat) (H:Hp) (hn:ts.length=done.length) (hl:ts.length≤10) (hnl:∀ t∈ts,t.needs.length≤1000000) (hin:inR ts done.length) (hd:d < H.n) (hm:H.m d=some (.arr 1 (vB done))) :
    ACall Tryz.prog 125 [.fsl st 4 (mv taskV ts),.sl d 0 done.length] H [d] (.fsl .loose 1 (vI (freeS ts done ts.length))) [] 100:=by
  refine ena125 (by simp) (by simp [lowL,V.low,hd,lowL_closed _ (mv_closed taskV_closed)]) (fun id hid => ?_) (by simp) ?_
  · simp at hid; subst hid
    exact ⟨hd,fun o ho => by rw [hm] at ho; simp at ho; subst ho; exact lowL_closed _ vB_closed⟩
  have q2:only [d] H.m d=some (.arr 1 (vB done)):=by simp [only,hm]
  have hdn:d≠H.n:=by omega
  simp (maxSteps:=1000000) (disch:=omega) only [rg,gD,simprocAttr,c125]
  refine x_it ts.length (fun i σ H' => H'.n≤H.n+1+2*i∧H.n+1≤H'.n∧H'.m H.n=some (.arr 1 [.sl d 0 done.length])∧H'.m d=some (.arr 1 (vB done))∧∃ v,σ=[(5,.fn 134 [] [.ptr H.n 0 0]),(6,v),(10,.fsl st 4 (mv taskV ts)),(11,.int .i64 ts.length),(12,.int .i64 i)] ∧
    ((v=.fsl .nil 1 []∧freeS ts done i=[])∨∃ id,H.n < id∧id < H'.n∧v=.sl id 0 (freeS ts done i).length∧H'.m id=some (.arr 1 (vI (freeS ts done i))))) ?_ ?_
  · exact ⟨by simp,by simp,by simp [upd],by simp only [upd_ne hdn]; exact q2,_,rfl,.inl ⟨rfl,rfl⟩⟩
  rintro T i σ ⟨n',m⟩ hi ⟨hb1,hb2,e0,e1,v,rfl,hv⟩ hN hX hR
  simp only at hb1 hb2 e0 e1 hv
  simp (maxSteps:=1000000) (disch:=omega) only [rg,gD,simprocAttr]
  refine ⟨fun h => ?_,fun h => ?_⟩
  · have i1:i < ts.length:=by omega
    have hns:=freeS_succ (done:=done) i1
    have ht:=hin ts[i] (List.getElem_mem i1)
    have hl1:=hnl ts[i] (List.getElem_mem i1)
    have hfl:=freeS_len ts done i
    have hno:∀ b:Bool,freeB ts[i] done i=false→freeS ts done (i+1)=freeS ts done i:=fun _ hb => by rw [hns,if_neg (by rw [hb]; simp)]
    have hne1:H.n≠n':=by omega
    have hne2:d≠n':=by omega
    simp (maxSteps:=1000000) (disch:=omega) only [rg,gD,simprocAttr,taskV]
    refine ⟨_,_,_,_,free_clo _ H.n d done i (by simp only []; omega) (by simp only []; omega) (by simp (disch:=omega) only [upd_eq,upd_ne,wo_0,wo_1,wo_2,e0]) (by simp (disch:=omega) only [upd_eq,upd_ne,wo_0,wo_1,wo_2,e1]) (by omega), ?_⟩
    cases hdi:done.getD i false with
    | true =>
      have hfb:freeB ts[i] done i=false:=by simp only [freeB,hdi]; rfl
      simp (maxSteps:=1000000) (disch:=omega) only [rg,gD,simprocAttr,hdi]
      refine hN _ _ i1 ⟨by simp only []; omega,by simp only []; omega,(by simp (disch:=omega) only [upd_eq,upd_ne,wo_0,wo_1,wo_2,e0]),(by simp (disch:=omega) only [upd_eq,upd_ne,wo_0,wo_1,wo_2,e1]),_,rfl, ?_⟩
      rw [hno true hfb]
      rcases hv with ⟨rfl,he⟩ | ⟨id,h1,h2,rfl,h3⟩
      · exact .inl ⟨rfl,he⟩
      · exact .inr ⟨id,h1,by simp only []; omega,rfl,(by simp (disch:=omega) only [upd_eq,upd_ne,wo_0,wo_1,wo_2,h3])⟩
    | false =>
      simp (maxSteps:=1000000) (disch:=omega) only [rg,gD,simprocAttr,hdi]
      have hall:(ts[i].needs.any fun x => !done.getD x.toNat false)=!(ts[i].needs.all fun x => done.getD x.toNat false):=by rw [List.not_all_eq_any_not]
      refine ⟨_,_,_,_,con_ints (rows:=ts[i].needs) (q:=fun x => !done.getD x.toNat false) (fp:=[H.n,d]) (kk:=0) (by omega) rfl (by simp [lowL,V.low]; omega) (fun id hid => ?_) (fun x hx H' h1 h2 => ?_), ?_⟩
      · simp at hid
        rcases hid with rfl | rfl
        · exact ⟨by simp only []; omega,fun o ho => by simp only [upd_ne hne1,e0] at ho; simp at ho; subst ho; simp [Ob.low,lowL,V.low]; omega⟩
        · exact ⟨by simp only []; omega,fun o ho => by simp only [upd_ne hne2,e1] at ho; simp at ho; subst ho; exact lowL_closed _ vB_closed⟩
      · exact free_clo H' H.n d done x (by simp only [] at h1; omega) (by simp only [] at h1; omega) (by rw [h2 _ (by simp)]; exact (by simp (disch:=omega) only [upd_eq,upd_ne,wo_0,wo_1,wo_2,e0])) (by rw [h2 _ (by simp)]; exact (by simp (disch:=omega) only [upd_eq,upd_ne,wo_0,wo_1,wo_2,e1])) (ht x hx)
      · rw [hall]
        cases ha:ts[i].needs.all fun x => done.getD x.toNat false with
        | false =>
          have hfb:freeB ts[i] done i=false:=by simp only [freeB,ha]; simp
          simp (maxSteps:=1000000) (disch:=omega) only [rg,gD,simprocAttr]
          refine hN _ _ i1 ⟨by simp only []; omega,by simp only []; omega,(by simp (disch:=omega) only [upd_eq,upd_ne,wo_0,wo_1,wo_2,e0]),(by simp (disch:=omega) only [upd_eq,upd_ne,wo_0,wo_1,wo_2,e1]),_,rfl, ?_⟩
          rw [hno true hfb]
          rcases hv with ⟨rfl,he⟩ | ⟨id,h1,h2,rfl,h3⟩
          · exact .inl ⟨rfl,he⟩
          · exact .inr ⟨id,h1,by simp only []; omega,rfl,(by simp (disch:=omega) only [upd_eq,upd_ne,wo_0,wo_1,wo_2,h3])⟩
        | true =>
          have hfb:freeB ts[i] done i=true:=by simp only [freeB,ha,hdi]; rfl
          have hs2:vI (freeS ts done i)++[.int .i64 i]=vI (freeS ts done (i+1)):=by rw [hns,if_pos hfb]; exact mv_app1
          have hl3:(freeS ts done (i+1)).length=(freeS ts done i).length+1:=by rw [hns,if_pos hfb]; simp
          have ht3:List.take (freeS ts done i).length (vI (freeS ts done i))=vI (freeS ts done i):=List.take_of_length_le (by rw [vI_len]; omega)
          rcases hv with ⟨rfl,he⟩ | ⟨id,h1,h2,rfl,h3⟩
          · simp (maxSteps:=1000000) (disch:=omega) only [rg,gD,simprocAttr,appO,Nat.mul_zero]
            refine hN _ _ i1 ⟨by simp only []; omega,by simp only []; omega,(by simp (disch:=omega) only [upd_eq,upd_ne,wo_0,wo_1,wo_2,e0]),(by simp (disch:=omega) only [upd_eq,upd_ne,wo_0,wo_1,wo_2,e1]),_,rfl,.inr ⟨n'+1,by omega,by simp,by rw [hl3,he]; rfl,by rw [← hs2,he]; simp [upd,vI,mv]⟩⟩
          · simp (maxSteps:=1000000) (disch:=omega) only [rg,gD,simprocAttr,appO,h3,hs2,ht3,vI_len,Nat.mul_zero]
            exact ⟨by omega,hN _ _ i1 ⟨by simp only []; omega,by simp only []; omega,(by simp (disch:=omega) only [upd_eq,upd_ne,wo_0,wo_1,wo_2,e0]),(by simp (disch:=omega) only [upd_eq,upd_ne,wo_0,wo_1,wo_2,e1]),_,rfl,.inr ⟨n'+1,by omega,by simp,by rw [hl3],(by simp (disch:=omega) only [upd_eq,upd_ne,wo_0,wo_1,wo_2])⟩⟩⟩
  · obtain rfl:i=ts.length:=by omega
    refine hX _ _ _ ?_
    simp (maxSteps:=1000000) (disch:=omega) only [rg,gD,simprocAttr]
    rcases hv with ⟨rfl,he⟩ | ⟨id,h1,h2,rfl,h3⟩
    · refine x_frz0 ?_
      simp (maxSteps:=1000000) (disch:=omega) only [rg,gD,simprocAttr]
      exact fin_A (l:=[.fsl .nil 1 []]) rfl (.inr (.inl (by rw [he]; rfl))) (by simp only []; omega) (fun j => by
        by_cases hj:j=d
        · subst hj; right; simp only [appd,q2,e1]
        · left; simp [appd,only,hj])
    · refine x_frz [id] ?_; simp only [vr,frz_p]; rw [frz_row (id:=id) (sz:=1) (l:=vI (freeS ts done ts.length)) (by first | assumption | (simp [upd]; done) | (simp [upd, *]; done)) (by simp) (by first | rfl | (simp [mv_len,vI_len,vI_closed]<;>omega)) (by simp [mv_closed,V.closed,vI_len,vI_closed])]
      simp (maxSteps:=1000000) (disch:=omega) only [rg,gD,simprocAttr]
      exact fin_A (l:=[.fsl .loose 1 (vI (freeS ts done ts.length))]) rfl (.inl rfl) (by simp only []; omega) (fun j => by
        by_cases hj:j=d
        · subst hj; right
          simp only [appd,q2]
          rw [wo_1 (by omega)]; exact e1.symm
        · left; simp [appd,only,hj])
def orderS (ts:List Task):Nat→List Bool→List Int→List Int
  | 0,_,out => out
  | k+1,done,out => match freeS ts done ts.length with | [] => out | i::_ => orderS ts k (done.set i.toNat true) (out++[i])
theorem freeS_mem {ts:List Task} {done:List Bool} {x:Int} (h:x∈freeS ts done ts.length):∃ i:Nat,x=i∧∃ hi:i < ts.length,freeB ts[i] done i=true:=by
  simp only [freeS,List.mem_map,List.mem_filter,List.take_length] at h
  obtain ⟨⟨t,i⟩,⟨h1,h2⟩,rfl⟩:=h
  obtain ⟨_,h3,h4⟩:=List.mem_zipIdx h1
  simp at h3 h4
  exact ⟨i,rfl,h3,by rw [← h4]; exact h2⟩
theorem freeS_full {ts:List Task} {done:List Bool} (hl:ts.length=done.length) (h:done.count true=done.length):freeS ts done ts.length=[]:=by
  cases hf:freeS ts done ts.length with
  | nil => rfl
  | cons x l =>
    obtain ⟨i,rfl,hi,hb⟩:=freeS_mem (x:=x) (by rw [hf]; simp)
    have hd:done.getD i false=true:=by
      have:=(List.count_eq_length.1 h) done[i] (List.getElem_mem (by omega))
      rw [List.getD_eq_getElem?_getD]; simp [show i < done.length by omega,← this]
    rw [freeB,hd] at hb; simp at hb
theorem count_set {done:List Bool} {i:Nat} (hi:i < done.length) (h:done.getD i false=false):(done.set i true).count true=done.count true+1:=by
  rw [List.count_set hi]
  have:done[i]=false:=by simpa [List.getD_eq_getElem?_getD,hi] using h
  simp [this]
def orderF (ts:List Task):List Int:=orderS ts (ts.length+1) (List.replicate ts.length false) []
theorem dag_order (st:St) (ts:List Task) (hl:ts.length≤10) (hnl:∀ t∈ts,t.needs.length≤1000000) (hin:inR ts ts.length):PCall Tryz.prog 98 [.fsl st 4 (mv taskV ts)] (.fsl .loose 1 (vI (orderF ts))):=by
  refine en98 (by simp) (by simp [closedL,V.closed,mv_closed taskV_closed]) ?_
  simp (maxSteps:=1000000) (disch:=omega) only [rg,gD,simprocAttr,c98]
  refine ⟨by omega, ?_⟩
  refine x_it ts.length (fun i σ H => 1≤H.n∧∃ done out v,done.length=ts.length∧done.count true=i∧out.length=i∧orderF ts=orderS ts (ts.length+1 - i) done out∧H.m 0=some (.arr 1 (vB done))∧σ=[(0,.fsl st 4 (mv taskV ts)),(3,.sl 0 0 ts.length),(4,v)] ∧
    ((v=.fsl .nil 1 []∧out=[])∨∃ id,1≤id∧id < H.n∧v=.sl id 0 out.length∧H.m id=some (.arr 1 (vI out)))) ?_ ?_
  · exact ⟨Nat.le_refl 1,List.replicate ts.length false,[],_,by simp,by simp [List.count_replicate],rfl,rfl,by simp [upd,vB,mv],rfl,.inl ⟨rfl,rfl⟩⟩
  rintro T i σ ⟨q,m⟩ hi ⟨hq,done,out,v,h1,h2,h3,h4,e0,rfl,hv⟩ hN hX hR
  simp only at hq e0 hv
  have fr:=dag_free st ts done 0 ⟨q,m⟩ (by omega) hl hnl (by rw [h1]; exact hin) hq e0
  rw [h1] at fr
  have h5:ts.length+1 - i=(ts.length - i)+1:=by omega
  rw [h5,orderS] at h4
  simp (maxSteps:=1000000) (disch:=omega) only [rg,gD,simprocAttr]
  refine ⟨_,_,_,_,fr, ?_⟩
  cases hf:freeS ts done ts.length with
  | nil =>
    rw [hf] at h4; simp only at h4
    simp (maxSteps:=1000000) (disch:=omega) only [rg,gD,simprocAttr,vI_len,Int.natCast_zero]
    refine hR _ _ ?_
    simp (maxSteps:=1000000) (disch:=omega) only [rg,gD,simprocAttr]
    rcases hv with ⟨rfl,rfl⟩ | ⟨id,g1,g2,rfl,g3⟩
    · (refine fin_x rfl ?_ ?_<;>simp [pack,lo,loL,V.closed,closedL,mv_closed,h4,vI,mv])
    · refine fin_y (v:=.fsl .loose 1 (vI out)) rfl (snap_sl g3 vI_closed (vI_len out).symm) (by simp [lo,vI_lo,h4])
  | cons x l =>
    obtain ⟨k,hk,hk1,hk2⟩:=freeS_mem (x:=x) (by rw [hf]; simp)
    subst hk
    rw [hf] at h4; simp only at h4
    simp only [freeB,Bool.and_eq_true,Bool.not_eq_true'] at hk2
    have hdk:k < done.length:=by omega
    have hc:=count_set hdk hk2.1
    have hlt:i < ts.length:=by
      rcases Nat.lt_or_ge i ts.length with h | h
      · exact h
      · have:=freeS_full (ts:=ts) (by omega) (show done.count true=done.length by omega)
        rw [this] at hf; cases hf
    have hpos:¬ ((l.length+1:Nat):Int)=0:=by omega
    have hg0:(vI ((k:Int)::l))[0]?=some (.int .i64 k):=rfl
    simp (maxSteps:=1000000) (disch:=omega) only [rg,gD,simprocAttr,vI_len,hpos,hg0,show (0:Int).toNat=0 from rfl,e0,vB_get hdk,h1]
    refine ⟨by omega, ?_⟩
    have hset:(vB done).set k (.bool true)=vB (done.set k true):=mv_set
    have e6:ts.length+1 - (i+1)=ts.length - i:=by omega
    have hl3:(out++[(k:Int)]).length=out.length+1:=by simp
    have ho:vI out++[.int .i64 k]=vI (out++[(k:Int)]):=mv_app1
    rcases hv with ⟨rfl,rfl⟩ | ⟨id,g1,g2,rfl,g3⟩
    · simp (maxSteps:=1000000) (disch:=omega) only [rg,gD,simprocAttr,appO,hset]
      exact hN _ _ hlt ⟨by simp only []; omega,done.set k true,[]++[(k:Int)],_,by simpa using h1,by rw [hc,h2],by simp at h3 ⊢; omega,by rw [e6]; simpa using h4,(by simp (disch:=omega) only [upd_eq,upd_ne,wo_0,wo_1,wo_2]),rfl,.inr ⟨q+100,by omega,by simp,rfl,by rw [← ho]; simp [upd,vI,mv]⟩⟩
    · have ht3:List.take out.length (vI out)=vI out:=List.take_of_length_le (by rw [vI_len]; omega)
      have hid:id≠0:=by omega
      simp (maxSteps:=1000000) (disch:=omega) only [rg,gD,simprocAttr,appO,hset,g3,vI_len,ht3,ho]
      exact ⟨by omega,hN _ _ hlt ⟨by simp only []; omega,done.set k true,out++[(k:Int)],_,by simpa using h1,by rw [hc,h2],by rw [hl3,h3],by rw [e6]; simpa using h4,(by simp (disch:=omega) only [upd_eq,upd_ne,wo_0,wo_1,wo_2]),rfl,.inr ⟨q+100,by omega,by simp,by rw [hl3],(by simp (disch:=omega) only [upd_eq,upd_ne,wo_0,wo_1,wo_2])⟩⟩⟩
def dagRightS (d:Dag):Int :=
  if 10 < d.tasks.length then 2 else if d.tasks.length < 1∨d.name.length < 1∨16 < d.name.length∨(d.tasks.any fun t => !taskOkS t d.tasks.length)=true then 1 else if (orderF d.tasks).length < d.tasks.length then 160 else 0
theorem rise_range:∀ {l:List Int} {last n:Int},riseS last l n=true→-1≤last→(∀ x∈l,0≤x∧x < n)∧(l.length:Int)≤max (n - 1 - last) 0
  | [],last,n,_,_ => ⟨by simp,by simp; omega⟩
  | x::xs,last,n,h,h0 => by
    simp only [riseS,Bool.and_eq_true,Bool.not_eq_true',decide_eq_false_iff_not] at h
    obtain ⟨h1,h2,h3⟩:=h
    obtain ⟨k1,k2⟩:=rise_range h3 (by omega)
    refine ⟨fun y hy => ?_,by simp; omega⟩
    rcases List.mem_cons.1 hy with rfl | hy
    · omega
    · exact k1 y hy
theorem right_clo (H:Hp) (b:Nat) (t:Task) (n:Int) (hb:b < H.n) (h1:H.m b=some (.arr 1 [.int .i64 n])) (hl:t.needs.length≤4611686018427387904) :
    ACall Tryz.prog 96 [taskV t,.ptr b 0 0] H [b] (.bool (!taskOkS t n)) [] 1:=by
  refine ena96 (by simp) (by simp [lowL,V.low,hb,V.low_closed _ (taskV_closed t)]) (fun id hid => ?_) (by simp) ?_
  · simp at hid; subst hid
    exact ⟨hb,fun o ho => by rw [h1] at ho; simp at ho; subst ho; rfl⟩
  have q1:only [b] H.m b=some (.arr 1 [.int .i64 n]):=by simp [only,h1]
  have hne:b≠H.n:=by omega
  have k:=dag_task t n hl
  unfold taskV at k ⊢
  simp (maxSteps:=1000000) (disch:=omega) only [rg,gD,simprocAttr,c96,q1]
  refine ⟨_,k, ?_⟩
  simp (maxSteps:=1000000) (disch:=omega) only [rg,gD,simprocAttr]
  refine fin_A (l:=[.bool (!taskOkS t n)]) rfl (.inl rfl) (by simp) (fun j => ?_)
  by_cases hj:j=H.n
  · subst hj; left; simp [appd,only]; omega
  · right; simp [appd,upd,hj]
def unI:V→Int
  | .int _ n => n
  | _ => 0
theorem unI_map:∀ l:List Int,(vI l).map unI=l
  | [] => rfl
  | a::l => by show a::(vI l).map unI=_; rw [unI_map l]
theorem con_tasks {st:St} {rows:List Task} {fs cs:List V} {g:Nat} {q:Task→Bool} {H:Hp} {fp:List Nat} {kk:Nat} (hn:rows.length≤1000000) (hl:lowL H.n fs=true) (hl':lowL H.n cs=true) (hfp:FpOk H fp)
    (hg:∀ x∈rows,∀ H':Hp,H.n≤H'.n→(∀ id∈fp,H'.m id=H.m id)→ACall Tryz.prog g (fs++[taskV x]++cs) H' fp (.bool (q x)) [] kk) :
    ACall Tryz.prog 95 [.fsl st 4 (mv taskV rows),.fn g fs cs] H fp (.bool (rows.any q)) [] (rows.length*kk):=by
  let un:V→Task:=fun v => match v with | .agg [.fsl _ _ l,.int _ a,.int _ b,.int _ c] => ⟨l.map unI,a,b,c⟩ | _ => ⟨[],0,0,0⟩
  have hun:∀ t,un (taskV t)=t:=fun t => by
    simp only [un,taskV]
    rw [unI_map]
  have:=con_gen (f:=95) (f2:=124) (sz:=4) (k:=some 4) (st:=st) (rows:=mv taskV rows) (fs:=fs) (cs:=cs) (g:=g) (q:=fun v => q (un v)) (H:=H) (fp:=fp) (kk:=kk)
    ena95 ena124 (by decide) (by decide) (mv_closed taskV_closed) (fun e he => by obtain ⟨a,_,rfl⟩:=mv_mem he; rfl) (by rw [mv_len]; omega) hl hl' hfp
    (fun e he H' h1 h2 => by obtain ⟨a,ha,rfl⟩:=mv_mem he; simp only [hun]; exact hg a ha H' h1 h2)
  rw [mv_len] at this
  have e:(mv taskV rows).any (fun v => q (un v))=rows.any q:=by
    rw [mv,List.any_map]; congr 1; funext t; exact congrArg q (hun t)
  rwa [e] at this
theorem dag_right (d:Dag) (hd:∀ t∈d.tasks,t.needs.length≤4611686018427387904) (hn:d.tasks.length≤4611686018427387904):PCall Tryz.prog 63 [dagV d] (.int .i64 (dagRightS d)):=by
  refine en63 (by simp) (by simp [closedL,V.closed,dagV_closed]) ?_
  simp (maxSteps:=1000000) (disch:=omega) only [rg,gD,simprocAttr,c63,dagV,tasksV]
  by_cases c0:10 < d.tasks.length
  · simp (maxSteps:=1000000) (disch:=omega) only [rg,gD,simprocAttr,show (10:Int) < d.tasks.length by omega]
    (refine fin_x rfl ?_ ?_<;>simp [pack,lo,loL,V.closed,closedL,mv_closed,dagRightS,c0])
  by_cases c1:d.tasks.length < 1
  · simp (maxSteps:=1000000) (disch:=omega) only [rg,gD,simprocAttr,show ¬ (10:Int) < d.tasks.length by omega,show (d.tasks.length:Int) < 1 by omega]
    (refine fin_x rfl ?_ ?_<;>simp [pack,lo,loL,V.closed,closedL,mv_closed,dagRightS,c0,c1])
  by_cases c2:d.name.length < 1
  · simp (maxSteps:=1000000) (disch:=omega) only [rg,gD,simprocAttr,show ¬ (10:Int) < d.tasks.length by omega,show ¬ (d.tasks.length:Int) < 1 by omega,show (d.name.length:Int) < 1 by omega]
    (refine fin_x rfl ?_ ?_<;>simp [pack,lo,loL,V.closed,closedL,mv_closed,dagRightS,c0,c2])
  by_cases c3:16 < d.name.length
  · simp (maxSteps:=1000000) (disch:=omega) only [rg,gD,simprocAttr,show ¬ (10:Int) < d.tasks.length by omega,show ¬ (d.tasks.length:Int) < 1 by omega,show ¬ (d.name.length:Int) < 1 by omega,show (16:Int) < d.name.length by omega]
    (refine fin_x rfl ?_ ?_<;>simp [pack,lo,loL,V.closed,closedL,mv_closed,dagRightS,c0,c3])
  simp (maxSteps:=1000000) (disch:=omega) only [rg,gD,simprocAttr,show ¬ (10:Int) < d.tasks.length by omega,show ¬ (d.tasks.length:Int) < 1 by omega,show ¬ (d.name.length:Int) < 1 by omega,show ¬ (16:Int) < d.name.length by omega]
  refine ⟨_,_,_,_,con_tasks (rows:=d.tasks) (q:=fun t => !taskOkS t d.tasks.length) (fp:=[1]) (kk:=1) (by omega) rfl (by simp [lowL,V.low]) (fun id hid => ?_) (fun t ht H' h1 h2 => ?_), ?_⟩
  · simp at hid; subst hid
    exact ⟨by simp,fun o ho => by simp only [upd_eq] at ho; simp at ho; subst ho; rfl⟩
  · exact right_clo H' 1 t _ (by simp only [] at h1; omega) (by rw [h2 1 (by simp)]; exact (by simp (disch:=omega) only [upd_eq,upd_ne,wo_0,wo_1,wo_2])) (hd t ht)
  cases ha:d.tasks.any fun t => !taskOkS t d.tasks.length with
  | true =>
    simp (maxSteps:=1000000) (disch:=omega) only [rg,gD,simprocAttr]
    (refine fin_x rfl ?_ ?_<;>simp [pack,lo,loL,V.closed,closedL,mv_closed,dagRightS,c0,c1,c2,c3,ha])
  | false =>
    have hall:∀ t∈d.tasks,taskOkS t d.tasks.length=true:=fun t ht => by
      have:=List.any_eq_false.1 ha t ht; simpa using this
    have hrg:∀ t∈d.tasks,(∀ x∈t.needs,0≤x∧x < d.tasks.length)∧(t.needs.length:Int)≤max ((d.tasks.length:Int) - 1 - (-1)) 0:=fun t ht => by
      have:=hall t ht
      simp only [taskOkS,Bool.and_eq_true] at this
      exact rise_range this.1 (by omega)
    simp (maxSteps:=1000000) (disch:=omega) only [rg,gD,simprocAttr]
    refine ⟨_,dag_order .loose d.tasks (by omega) (fun t ht => by have:=(hrg t ht).2; omega) (fun t ht => (hrg t ht).1), ?_⟩
    simp (maxSteps:=1000000) (disch:=omega) only [rg,gD,simprocAttr,vI_len]
    refine ⟨fun h => ?_,fun h => ?_⟩
    · (refine fin_x rfl ?_ ?_<;>simp [pack,lo,loL,V.closed,closedL,mv_closed,dagRightS,c0,c1,c2,c3,ha,show (orderF d.tasks).length < d.tasks.length by omega])
    · (refine fin_x rfl ?_ ?_<;>simp [pack,lo,loL,V.closed,closedL,mv_closed,dagRightS,c0,c1,c2,c3,ha,show ¬ (orderF d.tasks).length < d.tasks.length by omega])
def needsOf (ts:List Task) (k:Nat):List Int:=match ts[k]? with | some t => t.needs | none => []
theorem needsOf_get {ts:List Task} {k:Nat} (h:k < ts.length):needsOf ts k=ts[k].needs:=by simp [needsOf,h]
def markS (l:List Int) (o:List Bool):List Bool:=l.foldl (fun w x => w.set x.toNat true) o
theorem markS_len:∀ (l:List Int) (o:List Bool),(markS l o).length=o.length
  | [],_ => rfl
  | x::l,o => by show (markS l (o.set x.toNat true)).length=_; rw [markS_len l]; simp
theorem markS_take {l:List Int} {i:Nat} (h:i < l.length) (o:List Bool):markS (l.take (i+1)) o=(markS (l.take i) o).set l[i].toNat true:=by
  rw [List.take_succ_eq_append_getElem h,markS,List.foldl_append]; rfl
def roundS (ts:List Task):Nat→List Bool→List Bool
  | 0,o => o
  | k+1,o => if (roundS ts k o).getD k false=true then markS (needsOf ts k) (roundS ts k o) else roundS ts k o
theorem roundS_len (ts:List Task):∀ (k:Nat) (o:List Bool),(roundS ts k o).length=o.length
  | 0,_ => rfl
  | k+1,o => by
    rw [roundS]; split
    · rw [markS_len,roundS_len ts k]
    · exact roundS_len ts k o
def reachK (ts:List Task) (f:Nat):Nat→List Bool
  | 0 => markS (needsOf ts f) (List.replicate ts.length false)
  | k+1 => roundS ts ts.length (reachK ts f k)
theorem reachK_len (ts:List Task) (f:Nat):∀ k,(reachK ts f k).length=ts.length
  | 0 => by simp [reachK,markS_len]
  | k+1 => by rw [reachK,roundS_len,reachK_len ts f k]
theorem ref_reach (d:Dag) (f:Nat) (hf:f < d.tasks.length) (hl:d.tasks.length≤10) (hnl:∀ t∈d.tasks,t.needs.length≤1000000) (hin:inR d.tasks d.tasks.length) :
    PCall Tryz.prog 108 [dagV d,.int .i64 f] (.fsl .loose 1 (vB (reachK d.tasks f d.tasks.length))):=by
  refine en108 (by simp) (by simp [closedL,V.closed,dagV_closed]) ?_
  have hnf:∀ x∈d.tasks[f].needs,0≤x∧x < d.tasks.length:=hin _ (List.getElem_mem hf)
  have hnfl:=hnl _ (List.getElem_mem hf)
  have hrep:List.replicate d.tasks.length (V.bool false)=vB (List.replicate d.tasks.length false):=by simp [vB,mv]
  simp (maxSteps:=1000000) (disch:=omega) only [rg,gD,simprocAttr,c108,dagV,tasksV,taskV,vI_len,hrep]
  refine ⟨⟨by omega,by omega⟩, ?_⟩
  refine x_it d.tasks[f].needs.length (fun i σ H => H.n=2∧H.m 0=some (.arr 2 [dagV d])∧H.m 1=some (.arr 1 (vB (markS (d.tasks[f].needs.take i) (List.replicate d.tasks.length false))))∧σ=[(2,.ptr 0 0 0),(5,.sl 1 0 d.tasks.length),(22,.fsl .loose 1 (vI d.tasks[f].needs)),(23,.int .i64 d.tasks[f].needs.length),(24,.int .i64 i)]) ⟨rfl,by simp [upd,dagV,tasksV],by simp [upd,markS],rfl⟩ ?_
  rintro T i σ ⟨q,m⟩ hi ⟨rfl,e0,e1,rfl⟩ hN hX hR
  simp only at e0 e1
  simp (maxSteps:=1000000) (disch:=omega) only [rg,gD,simprocAttr]
  refine ⟨fun h => ?_,fun h => ?_⟩
  · have i1:i < d.tasks[f].needs.length:=by omega
    have hx:=hnf _ (List.getElem_mem i1)
    have hlt:d.tasks[f].needs[i].toNat < (markS (d.tasks[f].needs.take i) (List.replicate d.tasks.length false)).length:=by rw [markS_len]; simp; omega
    simp (maxSteps:=1000000) (disch:=omega) only [rg,gD,simprocAttr,vI_get,e1,vB_get hlt]
    refine ⟨by omega,hN _ _ i1 ⟨rfl,(by simp (disch:=omega) only [upd_eq,upd_ne,wo_0,wo_1,wo_2,e0]), ?_,rfl⟩⟩
    rw [markS_take i1]; simp only [upd_eq,vB,mv_set]
  · obtain rfl:i=d.tasks[f].needs.length:=by omega
    rw [List.take_length,← needsOf_get hf] at e1
    refine hX _ _ _ ?_
    simp (maxSteps:=1000000) (disch:=omega) only [rg,gD,simprocAttr]
    refine x_frz0 ?_
    simp (maxSteps:=1000000) (disch:=omega) only [rg,gD,simprocAttr]
    refine x_it d.tasks.length (fun k σ H => 2≤H.n∧H.m 0=some (.arr 2 [dagV d])∧H.m 1=some (.arr 1 (vB (reachK d.tasks f k)))∧σ=[(2,.ptr 0 0 0),(5,.sl 1 0 d.tasks.length),(8,.int .i64 k)]) ⟨Nat.le_refl 2,e0,e1,rfl⟩ ?_
    clear hN hX hR
    rintro T2 k σ ⟨q,m2⟩ hk ⟨hq,f0,f1,rfl⟩ hN2 hX2 hR2
    simp only at hq f0 f1
    have f0':=f0
    unfold dagV tasksV at f0
    simp (maxSteps:=1000000) (disch:=omega) only [rg,gD,simprocAttr,f0]
    refine ⟨fun h => ?_,fun h => ?_⟩
    · have k1:k < d.tasks.length:=by omega
      refine x_it d.tasks.length (fun j σ H => 2≤H.n∧H.m 0=some (.arr 2 [dagV d])∧H.m 1=some (.arr 1 (vB (roundS d.tasks j (reachK d.tasks f k))))∧σ=[(2,.ptr 0 0 0),(5,.sl 1 0 d.tasks.length),(8,.int .i64 k),(40,tasksV d.tasks),(41,.int .i64 d.tasks.length),(42,.int .i64 j)]) ⟨hq,f0',f1,rfl⟩ ?_
      rintro T3 j σ ⟨q3,m3⟩ hj ⟨hq3,p0,p1,rfl⟩ hN3 hX3 hR3
      simp only at hq3 p0 p1
      simp (maxSteps:=1000000) (disch:=omega) only [rg,gD,simprocAttr,tasksV]
      refine ⟨fun h => ?_,fun h => ?_⟩
      · have j1:j < d.tasks.length:=by omega
        have hlr:j < (roundS d.tasks j (reachK d.tasks f k)).length:=by rw [roundS_len,reachK_len]; omega
        have hgD:(roundS d.tasks j (reachK d.tasks f k)).getD j false=(roundS d.tasks j (reachK d.tasks f k))[j]:=by simp [List.getD,hlr]
        have hq0:0≠q3:=by omega
        have hq1:1≠q3:=by omega
        simp (maxSteps:=1000000) (disch:=omega) only [rg,gD,simprocAttr,taskV,upd_ne hq1,p1,vB_get hlr]
        cases hb:(roundS d.tasks j (reachK d.tasks f k))[j] with
        | false =>
          simp (maxSteps:=1000000) (disch:=omega) only [rg,gD,simprocAttr,hb]
          refine ⟨h,x_frz0 ?_⟩
          simp (maxSteps:=1000000) (disch:=omega) only [rg,gD,simprocAttr]
          refine hN3 _ _ j1 ?_
          refine ⟨by show 2≤q3+1; omega,(by simp (disch:=omega) only [upd_eq,upd_ne,wo_0,wo_1,wo_2,p0]), ?_,rfl⟩
          rw [roundS,hgD,hb,if_neg (by simp)]
          exact (by simp (disch:=omega) only [upd_eq,upd_ne,wo_0,wo_1,wo_2,p1])
        | true =>
          simp (maxSteps:=1000000) (disch:=omega) only [rg,gD,simprocAttr,hb,vI_len]
          have hx0:=hin _ (List.getElem_mem j1)
          have hx1:=hnl _ (List.getElem_mem j1)
          refine ⟨by omega, ?_⟩
          refine x_it d.tasks[j].needs.length (fun i σ H => 2≤H.n∧H.m 0=some (.arr 2 [dagV d])∧H.m 1=some (.arr 1 (vB (markS (d.tasks[j].needs.take i) (roundS d.tasks j (reachK d.tasks f k)))))∧σ=[(2,.ptr 0 0 0),(5,.sl 1 0 d.tasks.length),(8,.int .i64 k),(40,tasksV d.tasks),(41,.int .i64 d.tasks.length),(42,.int .i64 j),(52,.fsl .loose 1 (vI d.tasks[j].needs)),(53,.int .i64 d.tasks[j].needs.length),(54,.int .i64 i)]) ⟨by show 2≤q3+1; omega,(by simp (disch:=omega) only [upd_eq,upd_ne,wo_0,wo_1,wo_2,p0]), ?_,rfl⟩ ?_
          · simp only [List.take_zero,markS,List.foldl_nil]; exact (by simp (disch:=omega) only [upd_eq,upd_ne,wo_0,wo_1,wo_2,p1])
          rintro T4 i σ ⟨q4,m4⟩ hi4 ⟨hq4,r0,r1,rfl⟩ hN4 hX4 hR4
          simp only at hq4 r0 r1
          simp (maxSteps:=1000000) (disch:=omega) only [rg,gD,simprocAttr]
          refine ⟨fun h => ?_,fun h => ?_⟩
          · have i1:i < d.tasks[j].needs.length:=by omega
            have hx:=hx0 _ (List.getElem_mem i1)
            have hlt:d.tasks[j].needs[i].toNat < (markS (d.tasks[j].needs.take i) (roundS d.tasks j (reachK d.tasks f k))).length:=by rw [markS_len,roundS_len,reachK_len]; omega
            simp (maxSteps:=1000000) (disch:=omega) only [rg,gD,simprocAttr,vI_get,r1,vB_get hlt]
            refine ⟨by omega,hN4 _ _ i1 ?_⟩
            refine ⟨hq4,(by simp (disch:=omega) only [upd_eq,upd_ne,wo_0,wo_1,wo_2,r0]), ?_,rfl⟩
            rw [markS_take i1]; simp only [upd_eq,vB,mv_set]
          · obtain rfl:i=d.tasks[j].needs.length:=by omega
            rw [List.take_length,← needsOf_get j1] at r1
            refine hX4 _ _ _ ?_
            simp (maxSteps:=1000000) (disch:=omega) only [rg,gD,simprocAttr]
            refine x_frz0 ?_
            simp (maxSteps:=1000000) (disch:=omega) only [rg,gD,simprocAttr]
            refine hN3 _ _ j1 ?_
            refine ⟨hq4,r0, ?_,rfl⟩
            rw [roundS,hgD,hb,if_pos rfl]
            exact r1
      · obtain rfl:j=d.tasks.length:=by omega
        refine hX3 _ _ _ ?_
        simp (maxSteps:=1000000) (disch:=omega) only [rg,gD,simprocAttr]
        refine x_frz0 ?_
        simp (maxSteps:=1000000) (disch:=omega) only [rg,gD,simprocAttr]
        exact hN2 _ _ k1 ⟨hq3,p0,p1,rfl⟩
    · obtain rfl:k=d.tasks.length:=by omega
      refine hX2 _ _ _ ?_
      simp (maxSteps:=1000000) (disch:=omega) only [rg,gD,simprocAttr]
      refine x_frz [1] ?_; simp only [vr,frz_p]; rw [frz_row (id:=1) (sz:=1) (l:=vB (reachK d.tasks f d.tasks.length)) (by first | assumption | (simp [upd]; done) | (simp [upd, *]; done)) (by simp) (by first | rfl | (simp [mv_len,vB_closed,vB_len,reachK_len]<;>omega)) (by simp [mv_closed,V.closed,vB_closed,vB_len,reachK_len])]
      simp (maxSteps:=1000000) (disch:=omega) only [rg,gD,simprocAttr]
      (refine fin_x rfl ?_ ?_<;>simp [pack,lo,loL,V.closed,closedL,mv_closed,vB_lo,vB_closed])
def shapedS (d:Dag):Bool:=!(decide (d.tasks.length < 1∨d.name.length < 1∨16 < d.name.length)) && d.tasks.all fun t => taskOkS t d.tasks.length
theorem ref_shaped (d:Dag) (hd:∀ t∈d.tasks,t.needs.length≤4611686018427387904) (hn:d.tasks.length≤4611686018427387904):PCall Tryz.prog 107 [dagV d] (.bool (shapedS d)):=by
  refine en107 (by simp) (by simp [closedL,V.closed,dagV_closed]) ?_
  simp (maxSteps:=1000000) (disch:=omega) only [rg,gD,simprocAttr,c107,dagV,tasksV]
  by_cases c1:d.tasks.length < 1
  · simp (maxSteps:=1000000) (disch:=omega) only [rg,gD,simprocAttr,show (d.tasks.length:Int) < 1 by omega]
    (refine fin_x rfl ?_ ?_<;>simp [pack,lo,loL,V.closed,closedL,mv_closed,shapedS,c1])
  by_cases c2:d.name.length < 1
  · simp (maxSteps:=1000000) (disch:=omega) only [rg,gD,simprocAttr,show ¬ (d.tasks.length:Int) < 1 by omega,show (d.name.length:Int) < 1 by omega]
    (refine fin_x rfl ?_ ?_<;>simp [pack,lo,loL,V.closed,closedL,mv_closed,shapedS,c2])
  by_cases c3:16 < d.name.length
  · simp (maxSteps:=1000000) (disch:=omega) only [rg,gD,simprocAttr,show ¬ (d.tasks.length:Int) < 1 by omega,show ¬ (d.name.length:Int) < 1 by omega,show (16:Int) < d.name.length by omega]
    (refine fin_x rfl ?_ ?_<;>simp [pack,lo,loL,V.closed,closedL,mv_closed,shapedS,c3])
  simp (maxSteps:=1000000) (disch:=omega) only [rg,gD,simprocAttr,show ¬ (d.tasks.length:Int) < 1 by omega,show ¬ (d.name.length:Int) < 1 by omega,show ¬ (16:Int) < d.name.length by omega]
  have hS:shapedS d=d.tasks.all fun t => taskOkS t d.tasks.length:=by simp [shapedS,c1,c2,c3]
  refine x_it d.tasks.length (fun i σ H => 1≤H.n∧(d.tasks.all fun t => taskOkS t d.tasks.length)=((d.tasks.drop i).all fun t => taskOkS t d.tasks.length)∧σ=[(3,.int .i64 d.tasks.length),(26,tasksV d.tasks),(27,.int .i64 d.tasks.length),(28,.int .i64 i)]) ⟨Nat.le_refl 1,by simp,rfl⟩ ?_
  rintro T i σ ⟨q,m⟩ hi ⟨hq,hr,rfl⟩ hN hX hR
  simp only at hq
  simp (maxSteps:=1000000) (disch:=omega) only [rg,gD,simprocAttr,tasksV]
  refine ⟨fun h => ?_,fun h => ?_⟩
  · have i1:i < d.tasks.length:=by omega
    have hl1:=hd _ (List.getElem_mem i1)
    rw [List.drop_eq_getElem_cons i1,List.all_cons] at hr
    simp (maxSteps:=1000000) (disch:=omega) only [rg,gD,simprocAttr,taskV,vI_len]
    refine x_it d.tasks[i].needs.length (fun j σ H => 1≤H.n∧H.m q=some (.arr 4 [.agg [.fsl .loose 1 (vI d.tasks[i].needs),.int .i64 d.tasks[i].tries,.int .i64 d.tasks[i].wait,.int .i64 d.tasks[i].lease]])∧(∃ last,riseS (-1) d.tasks[i].needs d.tasks.length=riseS last (d.tasks[i].needs.drop j) d.tasks.length∧((j=0∧last=-1)∨(0 < j∧d.tasks[i].needs[j - 1]?=some last∧0≤last)))∧σ=[(3,.int .i64 d.tasks.length),(5,.ptr q 0 0),(26,tasksV d.tasks),(27,.int .i64 d.tasks.length),(28,.int .i64 i),(33,.fsl .loose 1 (vI d.tasks[i].needs)),(34,.int .i64 d.tasks[i].needs.length),(35,.int .i64 j)]) ⟨by show 1≤q+1; omega,(by simp (disch:=omega) only [upd_eq,upd_ne,wo_0,wo_1,wo_2]),⟨-1,by simp,.inl ⟨rfl,rfl⟩⟩,rfl⟩ ?_
    rintro T2 j σ ⟨q2,m2⟩ hj ⟨hq2,e0,⟨last,hs,hla⟩,rfl⟩ hN2 hX2 hR2
    simp only at hq2 e0
    simp (maxSteps:=1000000) (disch:=omega) only [rg,gD,simprocAttr]
    refine ⟨fun h => ?_,fun h => ?_⟩
    · have j1:j < d.tasks[i].needs.length:=by omega
      rw [List.drop_eq_getElem_cons j1,riseS] at hs
      simp (maxSteps:=1000000) (disch:=omega) only [rg,gD,simprocAttr,vI_get]
      by_cases d1:d.tasks[i].needs[j] < 0
      · simp (maxSteps:=1000000) (disch:=omega) only [rg,gD,simprocAttr,d1]
        refine hR2 _ _ ?_
        simp (maxSteps:=1000000) (disch:=omega) only [rg,gD,simprocAttr]
        refine hR _ _ ?_
        simp (maxSteps:=1000000) (disch:=omega) only [rg,gD,simprocAttr]
        have:d.tasks[i].needs[j]≤last:=by rcases hla with ⟨_,h⟩ | ⟨_,_,h⟩<;>omega
        have hf:shapedS d=false:=by rw [hS,hr,taskOkS,hs]; simp [this]
        (refine fin_x rfl ?_ ?_<;>simp [pack,lo,loL,V.closed,closedL,mv_closed,hf])
      by_cases d2:(d.tasks.length:Int)≤d.tasks[i].needs[j]
      · simp (maxSteps:=1000000) (disch:=omega) only [rg,gD,simprocAttr,d1,d2]
        refine hR2 _ _ ?_
        simp (maxSteps:=1000000) (disch:=omega) only [rg,gD,simprocAttr]
        refine hR _ _ ?_
        simp (maxSteps:=1000000) (disch:=omega) only [rg,gD,simprocAttr]
        have hf:shapedS d=false:=by rw [hS,hr,taskOkS,hs]; simp [d2]
        (refine fin_x rfl ?_ ?_<;>simp [pack,lo,loL,V.closed,closedL,mv_closed,hf])
      rcases hla with ⟨rfl,rfl⟩ | ⟨h1,h2,h3⟩
      · simp (maxSteps:=1000000) (disch:=omega) only [rg,gD,simprocAttr,d1,d2,show ¬ (0:Int) < ((0:Nat):Int) by omega]
        refine hN2 _ _ j1 ?_
        refine ⟨hq2,e0,⟨d.tasks[i].needs[0],by rw [hs]; simp [d2]; omega,.inr ⟨by omega,by simp,by omega⟩⟩,rfl⟩
      · have hp:(0:Int) < j:=by omega
        have hg:(vI d.tasks[i].needs)[j - 1]?=some (.int .i64 last):=by simp [vI,mv,h2]
        have ht:((j:Int) - 1).toNat=j - 1:=by omega
        simp (maxSteps:=1000000) (disch:=omega) only [rg,gD,simprocAttr,d1,d2,hp,e0,ht,hg]
        refine ⟨by omega,fun g => ?_,fun g => ?_⟩
        · refine hR2 _ _ ?_
          simp (maxSteps:=1000000) (disch:=omega) only [rg,gD,simprocAttr]
          refine hR _ _ ?_
          simp (maxSteps:=1000000) (disch:=omega) only [rg,gD,simprocAttr]
          have hf:shapedS d=false:=by rw [hS,hr,taskOkS,hs]; simp [g]
          (refine fin_x rfl ?_ ?_<;>simp [pack,lo,loL,V.closed,closedL,mv_closed,hf])
        · refine hN2 _ _ j1 ?_
          refine ⟨hq2,e0,⟨d.tasks[i].needs[j],by rw [hs]; simp [d2]; omega,.inr ⟨by omega,by simp,by omega⟩⟩,rfl⟩
    · obtain rfl:j=d.tasks[i].needs.length:=by omega
      rw [List.drop_length,riseS] at hs
      refine hX2 _ _ _ ?_
      simp (maxSteps:=1000000) (disch:=omega) only [rg,gD,simprocAttr]
      refine x_frz0 ?_
      have hno:taskNumS d.tasks[i]=false→shapedS d=false:=fun hf => by rw [hS,hr,taskOkS,hf]; simp
      by_cases g1:d.tasks[i].tries < 1
      · simp (maxSteps:=1000000) (disch:=omega) only [rg,gD,simprocAttr,e0,g1]
        refine hR _ _ ?_
        simp (maxSteps:=1000000) (disch:=omega) only [rg,gD,simprocAttr]
        (refine fin_x rfl ?_ ?_<;>simp [pack,lo,loL,V.closed,closedL,mv_closed,hno (by simp only [taskNumS,decide_eq_false_iff_not]; omega)])
      by_cases g2:8 < d.tasks[i].tries
      · simp (maxSteps:=1000000) (disch:=omega) only [rg,gD,simprocAttr,e0,g1,g2]
        refine hR _ _ ?_
        simp (maxSteps:=1000000) (disch:=omega) only [rg,gD,simprocAttr]
        (refine fin_x rfl ?_ ?_<;>simp [pack,lo,loL,V.closed,closedL,mv_closed,hno (by simp only [taskNumS,decide_eq_false_iff_not]; omega)])
      by_cases g3:d.tasks[i].wait < 0
      · simp (maxSteps:=1000000) (disch:=omega) only [rg,gD,simprocAttr,e0,g1,g2,g3]
        refine hR _ _ ?_
        simp (maxSteps:=1000000) (disch:=omega) only [rg,gD,simprocAttr]
        (refine fin_x rfl ?_ ?_<;>simp [pack,lo,loL,V.closed,closedL,mv_closed,hno (by simp only [taskNumS,decide_eq_false_iff_not]; omega)])
      by_cases g4:1048576 < d.tasks[i].wait
      · simp (maxSteps:=1000000) (disch:=omega) only [rg,gD,simprocAttr,e0,g1,g2,g3,g4]
        refine hR _ _ ?_
        simp (maxSteps:=1000000) (disch:=omega) only [rg,gD,simprocAttr]
        (refine fin_x rfl ?_ ?_<;>simp [pack,lo,loL,V.closed,closedL,mv_closed,hno (by simp only [taskNumS,decide_eq_false_iff_not]; omega)])
      by_cases g5:d.tasks[i].lease < 1
      · simp (maxSteps:=1000000) (disch:=omega) only [rg,gD,simprocAttr,e0,g1,g2,g3,g4,g5]
        refine hR _ _ ?_
        simp (maxSteps:=1000000) (disch:=omega) only [rg,gD,simprocAttr]
        (refine fin_x rfl ?_ ?_<;>simp [pack,lo,loL,V.closed,closedL,mv_closed,hno (by simp only [taskNumS,decide_eq_false_iff_not]; omega)])
      by_cases g6:1048576 < d.tasks[i].lease
      · simp (maxSteps:=1000000) (disch:=omega) only [rg,gD,simprocAttr,e0,g1,g2,g3,g4,g5,g6]
        refine hR _ _ ?_
        simp (maxSteps:=1000000) (disch:=omega) only [rg,gD,simprocAttr]
        (refine fin_x rfl ?_ ?_<;>simp [pack,lo,loL,V.closed,closedL,mv_closed,hno (by simp only [taskNumS,decide_eq_false_iff_not]; omega)])
      simp (maxSteps:=1000000) (disch:=omega) only [rg,gD,simprocAttr,e0,g1,g2,g3,g4,g5,g6]
      refine x_frz0 ?_
      simp (maxSteps:=1000000) (disch:=omega) only [rg,gD,simprocAttr]
      refine hN _ _ i1 ?_
      refine ⟨hq2, ?_,rfl⟩
      rw [hr,taskOkS,hs]
      have:taskNumS d.tasks[i]=true:=by simp only [taskNumS,decide_eq_true_eq]; omega
      simp [this]
  · obtain rfl:i=d.tasks.length:=by omega
    refine hX _ _ _ ?_
    simp (maxSteps:=1000000) (disch:=omega) only [rg,gD,simprocAttr]
    rw [List.drop_length,List.all_nil] at hr
    refine x_frz0 ?_
    simp (maxSteps:=1000000) (disch:=omega) only [rg,gD,simprocAttr]
    (refine fin_x rfl ?_ ?_<;>simp [pack,lo,loL,V.closed,closedL,mv_closed,hS.trans hr])
def cycK (ts:List Task) (i:Nat):Bool:=(reachK ts i ts.length).getD i false
def cycS (ts:List Task):Bool:=(List.range ts.length).any (cycK ts)
def refRightS (d:Dag):Int :=
  if 10 < d.tasks.length then 2 else if shapedS d=false then 1 else if cycS d.tasks=true then 160 else 0
theorem ref_right (d:Dag) (hd:∀ t∈d.tasks,t.needs.length≤4611686018427387904) (hn:d.tasks.length≤4611686018427387904):PCall Tryz.prog 79 [dagV d] (.int .i64 (refRightS d)):=by
  refine en79 (by simp) (by simp [closedL,V.closed,dagV_closed]) ?_
  have ks:=ref_shaped d hd hn
  have kr:=fun f h1 h2 h3 h4 => ref_reach d f h1 h2 h3 h4
  unfold dagV tasksV at ks kr
  simp (maxSteps:=1000000) (disch:=omega) only [rg,gD,simprocAttr,c79,dagV,tasksV]
  by_cases c0:10 < d.tasks.length
  · simp (maxSteps:=1000000) (disch:=omega) only [rg,gD,simprocAttr,show (10:Int) < d.tasks.length by omega]
    (refine fin_x rfl ?_ ?_<;>simp [pack,lo,loL,V.closed,closedL,mv_closed,refRightS,c0])
  simp (maxSteps:=1000000) (disch:=omega) only [rg,gD,simprocAttr,show ¬ (10:Int) < d.tasks.length by omega]
  refine ⟨_,ks, ?_⟩
  cases hs:shapedS d with
  | false =>
    simp (maxSteps:=1000000) (disch:=omega) only [rg,gD,simprocAttr]
    (refine fin_x rfl ?_ ?_<;>simp [pack,lo,loL,V.closed,closedL,mv_closed,refRightS,c0,hs])
  | true =>
    have hall:∀ t∈d.tasks,taskOkS t d.tasks.length=true:=fun t ht => by
      simp only [shapedS,Bool.and_eq_true] at hs
      exact List.all_eq_true.1 hs.2 t ht
    have hrg:∀ t∈d.tasks,(∀ x∈t.needs,0≤x∧x < d.tasks.length)∧(t.needs.length:Int)≤max ((d.tasks.length:Int) - 1 - (-1)) 0:=fun t ht => by
      have:=hall t ht
      simp only [taskOkS,Bool.and_eq_true] at this
      exact rise_range this.1 (by omega)
    simp (maxSteps:=1000000) (disch:=omega) only [rg,gD,simprocAttr]
    refine x_it d.tasks.length (fun i σ H => H.m 0=some (.arr 2 [.agg [.str d.name,.fsl .loose 4 (mv taskV d.tasks)]])∧(∀ j,j < i→cycK d.tasks j=false)∧σ=[(1,.ptr 0 0 0),(14,.int .i64 d.tasks.length),(15,.int .i64 i)]) ⟨(by simp (disch:=omega) only [upd_eq,upd_ne,wo_0,wo_1,wo_2]),by simp,rfl⟩ ?_
    rintro T i σ ⟨q,m⟩ hi ⟨e0,hr,rfl⟩ hN hX hR
    simp only at e0
    simp (maxSteps:=1000000) (disch:=omega) only [rg,gD,simprocAttr]
    refine ⟨fun h => ?_,fun h => ?_⟩
    · have i1:i < d.tasks.length:=by omega
      simp (maxSteps:=1000000) (disch:=omega) only [rg,gD,simprocAttr,e0]
      refine ⟨_,kr i i1 (by omega) (fun t ht => by have:=(hrg t ht).2; omega) (fun t ht => (hrg t ht).1), ?_⟩
      have hlt:i < (reachK d.tasks i d.tasks.length).length:=by rw [reachK_len]; exact i1
      have hg:cycK d.tasks i=(reachK d.tasks i d.tasks.length)[i]:=by simp [cycK,List.getD,hlt]
      simp (maxSteps:=1000000) (disch:=omega) only [rg,gD,simprocAttr,vB_get hlt,← hg]
      cases hc:cycK d.tasks i with
      | true =>
        simp (maxSteps:=1000000) (disch:=omega) only [rg,gD,simprocAttr]
        refine hR _ _ ?_
        simp (maxSteps:=1000000) (disch:=omega) only [rg,gD,simprocAttr]
        have hc2:cycS d.tasks=true:=by
          simp only [cycS,List.any_eq_true,List.mem_range]
          exact ⟨i,i1,hc⟩
        (refine fin_x rfl ?_ ?_<;>simp [pack,lo,loL,V.closed,closedL,mv_closed,refRightS,c0,hs,hc2])
      | false =>
        simp (maxSteps:=1000000) (disch:=omega) only [rg,gD,simprocAttr]
        refine hN _ _ i1 ?_
        refine ⟨e0,fun j hj => ?_,rfl⟩
        rcases Nat.lt_or_ge j i with h' | h'
        · exact hr j h'
        · obtain rfl:j=i:=by omega
          exact hc
    · obtain rfl:i=d.tasks.length:=by omega
      refine hX _ _ _ ?_
      simp (maxSteps:=1000000) (disch:=omega) only [rg,gD,simprocAttr]
      refine x_frz0 ?_
      simp (maxSteps:=1000000) (disch:=omega) only [rg,gD,simprocAttr]
      have hc:cycS d.tasks=false:=by
        simp only [cycS,List.any_eq_false,List.mem_range]
        intro j hj; simp [hr j hj]
      (refine fin_x rfl ?_ ?_<;>simp [pack,lo,loL,V.closed,closedL,mv_closed,refRightS,c0,hs,hc])
def ndR (ts:List Task) (b a:Nat):Prop:=(b:Int)∈needsOf ts a
theorem gD_set {o:List Bool} {k j:Nat}:(o.set k true).getD j false=(o.getD j false || (decide (k=j) && decide (j < o.length))):=by
  simp only [List.getD_eq_getElem?_getD,List.getElem?_set]
  by_cases h:k=j
  · subst h
    by_cases h2:k < o.length
    · simp [h2]
    · simp [h2]
  · simp [h]
theorem gD_lt {o:List Bool} {j:Nat} (h:o.getD j false=true):j < o.length:=by
  rcases Nat.lt_or_ge j o.length with h' | h'
  · exact h'
  · simp [List.getD_eq_getElem?_getD,h'] at h
theorem markS_mono:∀ (l:List Int) (o:List Bool) (j:Nat),o.getD j false=true→(markS l o).getD j false=true
  | [],_,_,h => h
  | x::l,o,j,h => markS_mono l (o.set x.toNat true) j (by rw [gD_set,h]; rfl)
theorem markS_get:∀ (l:List Int) (o:List Bool) (j:Nat),j < o.length→(j:Int)∈l→(markS l o).getD j false=true
  | x::l,o,j,hj,h => by
    show (markS l (o.set x.toNat true)).getD j false=true
    rcases List.mem_cons.1 h with h | h
    · subst h
      exact markS_mono l _ j (by rw [gD_set]; simp [hj])
    · exact markS_get l _ j (by simpa using hj) h
theorem markS_only:∀ (l:List Int) (o:List Bool) (j:Nat),(∀ x∈l,0≤x)→(markS l o).getD j false=true→o.getD j false=true∨(j:Int)∈l
  | [],_,_,_,h => .inl h
  | x::l,o,j,h0,h => by
    have hx:=h0 x (by simp)
    rcases markS_only l (o.set x.toNat true) j (fun y hy => h0 y (by simp [hy])) h with h1 | h1
    · rw [gD_set] at h1
      simp only [Bool.or_eq_true,Bool.and_eq_true,decide_eq_true_eq] at h1
      rcases h1 with h1 | ⟨h1,_⟩
      · exact .inl h1
      · right; have:(j:Int)=x:=by omega
        simp [this]
    · exact .inr (by simp [h1])
theorem roundS_mono (ts:List Task):∀ (k:Nat) (o:List Bool) (j:Nat),o.getD j false=true→(roundS ts k o).getD j false=true
  | 0,_,_,h => h
  | k+1,o,j,h => by
    rw [roundS]; split
    · exact markS_mono _ _ _ (roundS_mono ts k o j h)
    · exact roundS_mono ts k o j h
theorem roundS_get (ts:List Task):∀ (m:Nat) (o:List Bool) (k j:Nat),k < m→j < o.length→o.getD k false=true→ndR ts j k→(roundS ts m o).getD j false=true
  | m+1,o,k,j,hk,hj,h,he => by
    rw [roundS]
    rcases Nat.lt_or_ge k m with h1 | h1
    · have:=roundS_get ts m o k j h1 hj h he
      split
      · exact markS_mono _ _ _ this
      · exact this
    · obtain rfl:k=m:=by omega
      rw [if_pos (roundS_mono ts k o k h)]
      exact markS_get _ _ _ (by rw [roundS_len]; exact hj) he
theorem roundS_only (ts:List Task) (h0:∀ k,∀ x∈needsOf ts k,0≤x) (G:Nat→Prop) (hG:∀ b c,G b→ndR ts c b→G c):∀ (m:Nat) (o:List Bool),(∀ j,o.getD j false=true→G j)→∀ j,(roundS ts m o).getD j false=true→G j
  | 0,_,h,j,hj => h j hj
  | m+1,o,h,j,hj => by
    have ih:=roundS_only ts h0 G hG m o h
    rw [roundS] at hj
    split at hj
    · next hm =>
      rcases markS_only _ _ _ (h0 m) hj with h1 | h1
      · exact ih j h1
      · exact hG m j (ih m hm) h1
    · exact ih j hj
theorem reachK_only (ts:List Task) (h0:∀ k,∀ x∈needsOf ts k,0≤x) (i:Nat):∀ (k j:Nat),(reachK ts i k).getD j false=true→Relation.TransGen (ndR ts) j i
  | 0,j,h => by
    rcases markS_only _ _ _ (h0 i) h with h1 | h1
    · exfalso
      have:=gD_lt h1
      simp only [List.length_replicate] at this
      simp [List.getD_eq_getElem?_getD,this] at h1
    · exact .single h1
  | k+1,j,h => roundS_only ts h0 (fun j => Relation.TransGen (ndR ts) j i) (fun b c hb hc => .trans (.single hc) hb) ts.length _ (fun j hj => reachK_only ts h0 i k j hj) j h
inductive Way (ts:List Task):Nat→Nat→Nat→Prop
  | one {a b:Nat}:ndR ts b a→Way ts 0 a b
  | more {k a b c:Nat}:Way ts k a b→ndR ts c b→Way ts (k+1) a c
theorem nd_lt {ts:List Task} (hin:∀ k,∀ x∈needsOf ts k,0≤x∧x < ts.length) {a b:Nat} (h:ndR ts b a):b < ts.length∧a < ts.length:=by
  refine ⟨by have:=hin a b h; omega, ?_⟩
  rcases Nat.lt_or_ge a ts.length with h' | h'
  · exact h'
  · simp [ndR,needsOf,h'] at h
theorem reachK_way {ts:List Task} (hin:∀ k,∀ x∈needsOf ts k,0≤x∧x < ts.length) {i:Nat}:∀ {k j:Nat},Way ts k i j→(reachK ts i k).getD j false=true
  | 0,j,.one h => markS_get _ _ _ (by simpa using (nd_lt hin h).1) h
  | k+1,j,.more hw h => by
    have:=reachK_way hin hw
    exact roundS_get ts _ _ _ _ (nd_lt hin h).2 (by rw [reachK_len]; exact (nd_lt hin h).1) this h
theorem reachK_le {ts:List Task} {i j k:Nat} (h:(reachK ts i k).getD j false=true):∀ m,k≤m→(reachK ts i m).getD j false=true:=by
  intro m hm
  obtain ⟨d,rfl⟩:=Nat.exists_eq_add_of_le hm
  induction d with
  | zero => exact h
  | succ d ih => exact roundS_mono ts _ _ _ (ih (by omega))
theorem pigeon:∀ (n:Nat) (f:Nat→Nat),(∀ k,k≤n→f k < n)→∃ a b,a < b∧b≤n∧f a=f b
  | 0,f,h => absurd (h 0 (Nat.le_refl 0)) (by omega)
  | n+1,f,h => by
    by_cases hc:∃ a,a≤n∧f a=f (n+1)
    · obtain ⟨a,h1,h2⟩:=hc
      exact ⟨a,n+1,by omega,by omega,h2⟩
    · have hc':∀ a,a≤n→f a≠f (n+1):=fun a ha he => hc ⟨a,ha,he⟩
      obtain ⟨a,b,h1,h2,h3⟩:=pigeon n (fun k => if f k=n then f (n+1) else f k) (fun k hk => by
        have:=h k (by omega)
        have:=h (n+1) (by omega)
        have:=hc' k hk
        split<;>omega)
      refine ⟨a,b,h1,by omega, ?_⟩
      have ha:=hc' a (by omega)
      have hb:=hc' b (by omega)
      split at h3<;>split at h3<;>omega
theorem acc_irr {r:Nat→Nat→Prop} {a:Nat} (h:Acc r a):¬ r a a:=by
  induction h with
  | intro a _ ih => exact fun hr => ih a hr hr
theorem orderS_acc {ts:List Task} (hin:∀ k,∀ x∈needsOf ts k,0≤x∧x < ts.length):∀ (k:Nat) (done:List Bool) (out:List Int),done.length=ts.length→ts.length < k+done.count true→out.length=done.count true→(∀ j,done.getD j false=true→Acc (ndR ts) j) →
    ∃ d:List Bool,d.length=ts.length∧freeS ts d ts.length=[]∧d.count true=(orderS ts k done out).length∧∀ j,d.getD j false=true→Acc (ndR ts) j
  | 0,done,out,h1,h2,_,_ => by have:=List.count_le_length (l:=done) (a:=true); omega
  | k+1,done,out,h1,h2,h3,h4 => by
    rw [orderS]
    cases hf:freeS ts done ts.length with
    | nil => exact ⟨done,h1,hf,h3.symm,h4⟩
    | cons x l =>
      obtain ⟨i,hx,hi,hb⟩:=freeS_mem (x:=x) (by rw [hf]; simp)
      subst hx
      simp only [freeB,Bool.and_eq_true,Bool.not_eq_true'] at hb
      have hc:=count_set (show i < done.length by omega) hb.1
      have:=orderS_acc hin k (done.set i true) (out++[(i:Int)]) (by simpa using h1) (by omega) (by simp; omega) (fun j hj => by
        rw [gD_set] at hj
        simp only [Bool.or_eq_true,Bool.and_eq_true,decide_eq_true_eq] at hj
        rcases hj with hj | ⟨rfl,_⟩
        · exact h4 j hj
        · refine Acc.intro _ fun b hbn => ?_
          have hbn':(b:Int)∈ts[i].needs:=by rwa [ndR,needsOf_get hi] at hbn
          have:=List.all_eq_true.1 hb.2 _ hbn'
          exact h4 b (by simpa using this))
      simpa using this
theorem cyc_order {ts:List Task} (hr:inR ts ts.length):cycS ts=decide ((orderF ts).length < ts.length):=by
  have hin:∀ k,∀ x∈needsOf ts k,0≤x∧x < ts.length:=fun k x hx => by
    rcases Nat.lt_or_ge k ts.length with h | h
    · rw [needsOf_get h] at hx; exact hr _ (List.getElem_mem h) x hx
    · simp [needsOf,h] at hx
  obtain ⟨d,h1,h2,h3,h4⟩:=orderS_acc hin (ts.length+1) (List.replicate ts.length false) [] (by simp) (by omega) (by simp [List.count_replicate]) (fun j hj => by
    have:=gD_lt hj; simp only [List.length_replicate] at this
    simp [List.getD_eq_getElem?_getD,this] at hj)
  have h3':d.count true=(orderF ts).length:=h3
  by_cases hlt:(orderF ts).length < ts.length
  · simp only [hlt,decide_true]
    -- one that is not done
    obtain ⟨i0,hi0,hd0⟩:∃ i,i < ts.length∧d.getD i false=false:=by
      apply Classical.byContradiction
      intro hno
      have:d.count true=d.length:=List.count_eq_length.2 (fun b hb => by
        obtain ⟨i,hi,rfl⟩:=List.mem_iff_getElem.1 hb
        cases hc:d[i] with
        | true => rfl
        | false => exact absurd ⟨i,by omega,by simp [List.getD_eq_getElem?_getD,hi,hc]⟩ hno)
      omega
    have hnext:∀ i,∃ j,(i < ts.length∧d.getD i false=false)→(j < ts.length∧d.getD j false=false∧ndR ts j i):=fun i => by
      by_cases hc:i < ts.length∧d.getD i false=false
      · obtain ⟨hi,hdi⟩:=hc
        have hnf:freeB ts[i] d i=false:=by
          cases hfb:freeB ts[i] d i with
          | false => rfl
          | true =>
            have:(i:Int)∈freeS ts d ts.length:=by
              simp only [freeS,List.mem_map,List.mem_filter,List.take_length]
              exact ⟨(ts[i],i),⟨by rw [List.mem_zipIdx_iff_getElem?]; simp [hi],hfb⟩,rfl⟩
            rw [h2] at this; cases this
        rw [freeB,hdi,Bool.not_false,Bool.true_and] at hnf
        obtain ⟨x,hx,hxd⟩:=List.all_eq_false.1 hnf
        have hxr:=hr _ (List.getElem_mem hi) x hx
        refine ⟨x.toNat,fun _ => ⟨by omega,by simpa using hxd, ?_⟩⟩
        rw [ndR,needsOf_get hi,show ((x.toNat:Nat):Int)=x by omega]; exact hx
      · exact ⟨0,fun h => absurd h hc⟩
    let nx:Nat→Nat:=fun i => Classical.choose (hnext i)
    have hnx:∀ i,(i < ts.length∧d.getD i false=false)→(nx i < ts.length∧d.getD (nx i) false=false∧ndR ts (nx i) i):=fun i => Classical.choose_spec (hnext i)
    let f:Nat→Nat:=fun k => Nat.rec i0 (fun _ r => nx r) k
    have hf:∀ k,f k < ts.length∧d.getD (f k) false=false:=fun k => by
      induction k with
      | zero => exact ⟨hi0,hd0⟩
      | succ k ih => exact ⟨(hnx (f k) ih).1,(hnx (f k) ih).2.1⟩
    have hstep:∀ k,ndR ts (f (k+1)) (f k):=fun k => (hnx (f k) (hf k)).2.2
    have hway:∀ m a,Way ts m (f a) (f (a+m+1)):=fun m => by
      induction m with
      | zero => exact fun a => .one (hstep a)
      | succ m ih => exact fun a => .more (ih a) (hstep (a+m+1))
    obtain ⟨a,b,k1,k2,k3⟩:=pigeon ts.length f (fun k _ => (hf k).1)
    have hw:=hway (b - a - 1) a
    rw [show a+(b - a - 1)+1=b by omega,← k3] at hw
    simp only [cycS,List.any_eq_true,List.mem_range]
    exact ⟨f a,(hf a).1,reachK_le (reachK_way hin hw) _ (by omega)⟩
  · simp only [hlt,decide_false]
    have hfull:d.count true=d.length:=by have:=List.count_le_length (l:=d) (a:=true); omega
    have hacc:∀ j,j < ts.length→Acc (ndR ts) j:=fun j hj => h4 j (by
      have:=List.count_eq_length.1 hfull d[j] (List.getElem_mem (by omega))
      simp [List.getD_eq_getElem?_getD,show j < d.length by omega,← this])
    simp only [cycS,List.any_eq_false,List.mem_range]
    intro j hj hc
    exact acc_irr (hacc j hj).transGen (reachK_only ts (fun k x hx => (hin k x hx).1) j _ j hc)
theorem right_same (d:Dag):refRightS d=dagRightS d:=by
  unfold refRightS dagRightS
  by_cases c0:10 < d.tasks.length
  · rw [if_pos c0,if_pos c0]
  rw [if_neg c0,if_neg c0]
  have e:shapedS d=false↔(d.tasks.length < 1∨d.name.length < 1∨16 < d.name.length∨(d.tasks.any fun t => !taskOkS t d.tasks.length)=true):=by
    have hall:(d.tasks.any fun t => !taskOkS t d.tasks.length)=!(d.tasks.all fun t => taskOkS t d.tasks.length):=by rw [List.not_all_eq_any_not]
    rw [hall,shapedS]
    cases (d.tasks.all fun t => taskOkS t d.tasks.length)
    · simp only [Bool.and_false,Bool.not_false,or_true]
    · simp only [Bool.and_true,Bool.not_true,Bool.not_eq_false',decide_eq_true_eq,Bool.false_eq_true,or_false]
  by_cases c1:shapedS d=false
  · rw [if_pos c1,if_pos (e.1 c1)]
  · rw [if_neg c1,if_neg (fun h => c1 (e.2 h))]
    have hin:inR d.tasks d.tasks.length:=fun t ht => by
      have:taskOkS t d.tasks.length=true:=by
        cases hk:taskOkS t d.tasks.length with
        | true => rfl
        | false => exact absurd (e.2 (.inr (.inr (.inr (List.any_eq_true.2 ⟨t,ht,by rw [hk]; rfl⟩))))) c1
      simp only [taskOkS,Bool.and_eq_true] at this
      exact (rise_range this.1 (by omega)).1
    rw [cyc_order hin]
    simp only [decide_eq_true_eq]
section
set_option maxRecDepth 100000
def ren_join:Go.Shelf.Ren:=⟨fun x => match x with | 156 => 44 | 165 => 59 | 166 => 25 | 169 => 29 | 240 => 43 | 241 => 84 | 276 => 58 | 277 => 113 | n => n,fun x => match x with | 31 => 52 | 9 => 9 | 3 => 3 | 4 => 4 | 0 => 0 | 20 => 20 | 72 => 62 | 76 => 65 | 70 => 59 | 37 => 60 | 75 => 64 | 127 => 82 | 164 => 90 | 5 => 5 | 80 => 69 | n => n,fun x => match x with | n => n⟩
theorem lays_join:Lays.n156 Tryz.prog ren_join where
  mixed:=by kernel_rfl
  f156:=Tryz.func44.trans (congrArg some (by kernel_rfl))
  f165:=Tryz.func59.trans (congrArg some (by kernel_rfl))
  f166:=Tryz.func25.trans (congrArg some (by kernel_rfl))
  f169:=Tryz.func29.trans (congrArg some (by kernel_rfl))
  f240:=Tryz.func43.trans (congrArg some (by kernel_rfl))
  f241:=Tryz.func84.trans (congrArg some (by kernel_rfl))
  f276:=Tryz.func58.trans (congrArg some (by kernel_rfl))
  f277:=Tryz.func113.trans (congrArg some (by kernel_rfl))
  t0:=Tryz.underlying0
  a0:=Tryz.isAgg0
  z0:=Tryz.sizeOf0
  v0:=Tryz.zeroValue0
  t3:=Tryz.underlying3
  a3:=Tryz.isAgg3
  z3:=Tryz.sizeOf3
  v3:=Tryz.zeroValue3
  t4:=Tryz.underlying4
  a4:=Tryz.isAgg4
  z4:=Tryz.sizeOf4
  v4:=Tryz.zeroValue4
  t9:=Tryz.underlying9
  a9:=Tryz.isAgg9
  z9:=Tryz.sizeOf9
  v9:=Tryz.zeroValue9
  t20:=Tryz.underlying20
  a20:=Tryz.isAgg20
  z20:=Tryz.sizeOf20
  v20:=Tryz.zeroValue20
  t31:=Tryz.underlying52
  a31:=Tryz.isAgg52
  z31:=Tryz.sizeOf52
  v31:=Tryz.zeroValue52
  t37:=Tryz.underlying60
  a37:=Tryz.isAgg60
  z37:=Tryz.sizeOf60
  v37:=Tryz.zeroValue60
  t70:=Tryz.underlying59
  a70:=Tryz.isAgg59
  z70:=Tryz.sizeOf59
  v70:=Tryz.zeroValue59
  t72:=Tryz.underlying62
  a72:=Tryz.isAgg62
  z72:=Tryz.sizeOf62
  v72:=Tryz.zeroValue62
  t75:=Tryz.underlying64
  a75:=Tryz.isAgg64
  z75:=Tryz.sizeOf64
  v75:=Tryz.zeroValue64
  t76:=Tryz.underlying65
  a76:=Tryz.isAgg65
  z76:=Tryz.sizeOf65
  v76:=Tryz.zeroValue65
  t127:=Tryz.underlying82
  a127:=Tryz.isAgg82
  z127:=Tryz.sizeOf82
  v127:=Tryz.zeroValue82
  t164:=Tryz.underlying90
  a164:=Tryz.isAgg90
  z164:=Tryz.sizeOf90
  v164:=Tryz.zeroValue90
theorem lays1_join:Builder.Extra Tryz.prog ren_join where
  sizeBuilder:=by kernel_rfl
  liesBuilder:=by kernel_rfl
  t5:=Tryz.underlying5
  a5:=Tryz.isAgg5
  z5:=Tryz.sizeOf5
  v5:=Tryz.zeroValue5
  infoByte:=by kernel_rfl
  cellsByte:=by kernel_rfl
  sizeByte:=by kernel_rfl
  neB5:=by decide
end
theorem code_join (st:St) (l:List Str) (sep:Str) (hN:l.length≤140737488355328) (hlen:(Lib.join l sep).length≤140737488355328):PCall Tryz.prog 44 [.fsl st 1 (vS l),.str sep] (.str (Lib.join l sep)) :=
  join_pcall (ρ:=ren_join) lays_join lays1_join ⟨_,Tryz.func44,by kernel_rfl,by kernel_rfl⟩ st l sep hN hlen
theorem flat_len:∀ {l:List Str} {N:Nat},(∀ s∈l,s.length≤N)→l.flatten.length≤l.length*N
  | [],_,_ => by simp
  | a::l,N,h => by
    have:=flat_len (l:=l) (N:=N) fun s hs => h s (by simp [hs])
    have:=h a (by simp)
    rw [List.flatten_cons,List.length_append,List.length_cons,Nat.add_mul]; omega
theorem code_all (st:St) (l:List Str) (hN:l.length≤1000) (hlen:∀ s∈l,s.length≤140737488355):PCall Tryz.prog 92 [.fsl st 1 (vS l)] (.str l.flatten):=by
  have hf:l.flatten.length≤140737488355328:=Nat.le_trans (flat_len hlen) (by have:=Nat.mul_le_mul_right 140737488355 hN; omega)
  refine en92 (by simp) (by simp [closedL,V.closed,vS_closed]) ?_
  simp (maxSteps:=1000000) (disch:=omega) only [rg,gD,simprocAttr,c92]
  refine ⟨_,code_join st l [] (by omega) (by rw [join_nil]; exact hf), ?_⟩
  rw [join_nil]
  simp (maxSteps:=1000000) (disch:=omega) only [rg,gD,simprocAttr]
  (refine fin_x rfl ?_ ?_<;>simp [pack,lo,loL,V.closed,closedL,mv_closed])
def u8V (l:List UInt8):List V:=mv (fun b:UInt8 => V.int .u8 b.toNat) l
theorem u8V_len (l:List UInt8):(u8V l).length=l.length:=mv_len
def beS:Nat→Nat→Str
  | 0,_ => []
  | k+1,n => beS k (n / 256)++[UInt8.ofNat (n % 256)]
theorem beS_len:∀ k n,(beS k n).length=k
  | 0,_ => rfl
  | k+1,n => by simp [beS,beS_len k]
theorem beS_get:∀ (k n j:Nat) (h:j < (beS k n).length),(beS k n)[j]=UInt8.ofNat (n / 256 ^ (k - 1 - j) % 256)
  | 0,_,j,h => by simp [beS] at h
  | k+1,n,j,h => by
    simp only [beS]
    rw [List.getElem_append]
    split
    · rename_i hj
      rw [beS_get k (n / 256) j hj]
      rw [beS_len] at hj
      rw [Nat.div_div_eq_div_mul,show k+1 - 1 - j=(k - 1 - j)+1 by omega,Nat.pow_succ,Nat.mul_comm]
    · rename_i hj
      have:(beS k (n / 256)).length=k:=beS_len _ _
      simp [beS_len] at h hj
      have:j=k:=by omega
      subst this
      simp [beS_len]
def putS (n size:Int):Str×Int:=if size < 1∨6 < size∨n < 0∨256 ^ size.toNat≤n then ([],1) else (beS size.toNat n.toNat,0)
def sV (p:Str×Int):V:=.tup [.str p.1,.int .i64 p.2]
theorem shr8 (n i:Nat) (hi:i≤6):(n:Int).fdiv (2 ^ min (8*(i:Int)).toNat 64)=((n / 256 ^ i:Nat):Int):=by
  have h:(2:Nat) ^ (8*i)=256 ^ i:=Nat.pow_mul 2 8 i
  rw [show min (8*(i:Int)).toNat 64=8*i by omega,Int.fdiv_eq_ediv_of_nonneg _ (Int.pow_nonneg (by omega)),← h]
  norm_cast
theorem wrap_u8 (m:Nat):IntKind.u8.wrap (m:Int)=((UInt8.ofNat (m % 256)).toNat:Int):=by
  simp [IntKind.wrap,IntKind.bits,IntKind.signed]
theorem code_put (n size:Int) (hn:n≤9223372036854775807):PCall Tryz.prog 120 [.int .i64 n,.int .i64 size] (sV (putS n size)):=by
  refine en120 (by simp) (by simp [closedL,V.closed]) ?_
  by_cases c1:size < 1
  · simp (maxSteps:=1000000) (disch:=omega) only [rg,gD,simprocAttr,c120,c1]
    (refine fin_x rfl ?_ ?_<;>simp [pack,lo,loL,V.closed,closedL,mv_closed,sV,putS,c1])
  by_cases c2:6 < size
  · simp (maxSteps:=1000000) (disch:=omega) only [rg,gD,simprocAttr,c120,c1,c2]
    (refine fin_x rfl ?_ ?_<;>simp [pack,lo,loL,V.closed,closedL,mv_closed,sV,putS,c2])
  by_cases c3:n < 0
  · simp (maxSteps:=1000000) (disch:=omega) only [rg,gD,simprocAttr,c120,c1,c2,c3]
    (refine fin_x rfl ?_ ?_<;>simp [pack,lo,loL,V.closed,closedL,mv_closed,sV,putS,c3])
  obtain ⟨k,rfl⟩:∃ k:Nat,size=k:=⟨size.toNat,by omega⟩
  obtain ⟨N,rfl⟩:∃ k:Nat,n=k:=⟨n.toNat,by omega⟩
  have e1:=shr8 N k (by omega)
  by_cases c4:256 ^ k≤N
  · have h0:¬ ((N / 256 ^ k:Nat):Int)=0:=by have:=Nat.div_pos c4 (Nat.pow_pos (by omega)); omega
    simp (maxSteps:=1000000) (disch:=omega) only [rg,gD,simprocAttr,c120,c1,c2,c3,IntKind.bits,e1,h0]
    refine ⟨by omega, ?_⟩
    have:(256:Int) ^ k≤N:=by exact_mod_cast c4
    (refine fin_x rfl ?_ ?_<;>simp [pack,lo,loL,V.closed,closedL,mv_closed,sV,putS,this])
  have h0:((N / 256 ^ k:Nat):Int)=0:=by rw [Nat.div_eq_of_lt (by omega)]; rfl
  have c5:¬ (256:Int) ^ k≤N:=by intro h; exact c4 (by exact_mod_cast h)
  have hput:putS N k=(beS k N,0):=by
    unfold putS; rw [if_neg (by simp only [Int.toNat_natCast]; omega)]; simp
  simp (maxSteps:=1000000) (disch:=omega) only [rg,gD,simprocAttr,c120,c1,c2,c3,IntKind.bits,e1,h0]
  refine ⟨by omega,by omega, ?_⟩
  let ct:Nat→List UInt8:=fun i => (List.range k).map fun j => if k≤i+j then UInt8.ofNat (N / 256 ^ (k - 1 - j) % 256) else 0
  refine x_it k (fun i σ H => H.n=1∧H.m 0=some (.arr 1 (u8V (ct i)))∧σ=[(0,.int .i64 N),(1,.int .i64 k),(6,.sl 0 0 k),(28,.int .i64 k),(29,.int .i64 i)]) ⟨rfl, ?_,rfl⟩ ?_
  · simp [upd,u8V,mv,ct]
    refine (List.eq_replicate_iff.2 ⟨by simp, ?_⟩).symm
    intro b hb
    obtain ⟨j,hj,rfl⟩:=List.mem_map.1 hb
    simp at hj
    simp [show ¬ k≤j by omega]
  rintro T i σ ⟨m,hm⟩ hi ⟨rfl,e0,rfl⟩ hN hX hR
  simp only at e0
  simp (maxSteps:=1000000) (disch:=omega) only [rg,gD,simprocAttr]
  refine ⟨fun h => ?_,fun h => ?_⟩
  · have h':i < k:=by omega
    have hk:k - 1 - i < (u8V (ct i)).length:=by simp [u8V_len,ct]; omega
    have hk':k - 1 - i < (ct i).length:=by simp [ct]; omega
    have hg:(u8V (ct i))[k - 1 - i]?=some (.int .u8 ((ct i)[k - 1 - i].toNat)):=mv_get hk'
    have e2:=shr8 N i (by omega)
    simp (maxSteps:=1000000) (disch:=omega) only [rg,gD,simprocAttr,e0,hg,IntKind.bits,e2,wrap_u8,V.cell,show ((k:Int) - 1 - i).toNat=k - 1 - i by omega]
    have hset:(u8V (ct i)).set (k - 1 - i) (.int .u8 (UInt8.ofNat (N / 256 ^ i % 256)).toNat)=u8V (ct (i+1)):=by
      rw [u8V,mv_set (f:=fun b:UInt8 => V.int .u8 b.toNat)]
      congr 1
      refine List.ext_getElem (by simp [ct]) fun j h1 h2 => ?_
      simp [ct] at h1
      rw [List.getElem_set]
      simp only [ct,List.getElem_map,List.getElem_range]
      by_cases hj:k - 1 - i=j
      · rw [if_pos hj,if_pos (by omega),show k - 1 - j=i by omega]
      · rw [if_neg hj]
        by_cases hk2:k≤i+j
        · rw [if_pos hk2,if_pos (by omega)]
        · rw [if_neg hk2,if_neg (by omega)]
    rw [hset]
    exact ⟨by omega,by omega,hN _ _ h' ⟨rfl,(by simp (disch:=omega) only [upd_eq,upd_ne,wo_0,wo_1,wo_2]),rfl⟩⟩
  · obtain rfl:i=k:=by omega
    refine hX _ _ _ ?_
    simp (maxSteps:=1000000) (disch:=omega) only [rg,gD,simprocAttr]
    refine x_frz0 ?_
    simp (maxSteps:=1000000) (disch:=omega) only [rg,gD,simprocAttr,e0,u8V_len]
    have hct:ct i=beS i N:=by
      refine List.ext_getElem (by simp [ct,beS_len]) fun j h1 h2 => ?_
      rw [beS_get]
      simp [ct]
    have hl:(ct i).length=i:=by simp [ct]
    refine ⟨beS i N,by rw [if_pos (by omega),List.take_of_length_le (by rw [u8V_len]; omega),hct]; rfl, ?_⟩
    simp (maxSteps:=1000000) (disch:=omega) only [rg,gD,simprocAttr]
    (refine fin_x rfl ?_ ?_<;>simp [pack,lo,loL,V.closed,closedL,mv_closed,sV,hput])
theorem putS_len (n size:Int):(putS n size).1.length≤6:=by
  unfold putS; split
  · simp
  · simp [beS_len]; omega
theorem u8_fold (s:List UInt8):(s.map fun b => V.int .u8 b.toNat)=u8V s:=rfl
theorem u8V_get {l:List UInt8} {i:Nat} (h:i < l.length):(u8V l)[i]?=some (.int .u8 l[i].toNat):=mv_get h
def textS (s:Str):Str×Int:=if 65535 < s.length then ([],2) else (beS 2 s.length++s,0)
theorem code_text (s:Str) (hs:s.length≤140737488355328):PCall Tryz.prog 121 [.str s] (sV (textS s)):=by
  refine en121 (by simp) (by simp [closedL,V.closed]) ?_
  simp (maxSteps:=1000000) (disch:=omega) only [rg,gD,simprocAttr,c121]
  refine ⟨fun h => ?_,fun h => ?_⟩
  · (refine fin_x rfl ?_ ?_<;>simp [pack,lo,loL,V.closed,closedL,mv_closed,sV,textS,show 65535 < s.length by omega])
  · refine ⟨_,code_put s.length 2 (by omega), ?_⟩
    have e:putS (s.length:Int) 2=(beS 2 s.length,0):=by
      unfold putS; rw [if_neg (by simp; omega)]; simp
    simp (maxSteps:=1000000) (disch:=omega) only [rg,gD,simprocAttr,e,sV]
    refine ⟨_,code_all .full [beS 2 s.length,s] (by simp) (by simp [beS_len]; omega), ?_⟩
    simp (maxSteps:=1000000) (disch:=omega) only [rg,gD,simprocAttr]
    (refine fin_x rfl ?_ ?_<;>simp [pack,lo,loL,V.closed,closedL,mv_closed,sV,textS,show ¬ 65535 < s.length by omega])
theorem ref_power (n:Nat) (hn:n≤6):PCall Tryz.prog 129 [.int .i64 n] (.int .i64 ((256 ^ n:Nat):Int)):=by
  refine en129 (by simp) (by simp [closedL,V.closed]) ?_
  simp (maxSteps:=1000000) (disch:=omega) only [rg,gD,simprocAttr,c129]
  refine x_itp n (fun _ => True) (fun i => [(0,.int .i64 n),(3,.int .i64 ((256 ^ i:Nat):Int)),(4,.int .i64 i)]) trivial rfl ?_
  intro T i hi _ hN hX hR
  have hp:256 ^ (i+1)=256 ^ i*256:=Nat.pow_succ ..
  have hb:256 ^ i≤256 ^ 6:=Nat.pow_le_pow_right (by omega) (by omega)
  simp (maxSteps:=1000000) (disch:=omega) only [rg,gD,simprocAttr]
  refine ⟨fun h => ?_,fun h => ?_⟩
  · have e3:=wrap_i64 (n:=((256 ^ i:Nat):Int)*256) (by omega) (by omega)
    try simp (maxSteps:=1000000) (disch:=omega) only [rg,gD,simprocAttr,e3]
    refine hN _ (by omega) trivial ?_
    rw [hp]; simp
  · obtain rfl:i=n:=by omega
    refine hX _ _ _ ?_
    simp (maxSteps:=1000000) (disch:=omega) only [rg,gD,simprocAttr]
    refine x_frz0 ?_
    simp (maxSteps:=1000000) (disch:=omega) only [rg,gD,simprocAttr]
    (refine fin_x rfl ?_ ?_<;>simp [pack,lo,loL,V.closed,closedL,mv_closed])
theorem byte_of (N i:Nat):IntKind.u8.wrap (((N / 256 ^ i % 256:Nat):Int))=((UInt8.ofNat (N / 256 ^ i % 256)).toNat:Int):=by
  rw [wrap_u8]; simp
theorem ref_put (n size:Int) (hn:n≤9223372036854775807):PCall Tryz.prog 111 [.int .i64 n,.int .i64 size] (sV (putS n size)):=by
  refine en111 (by simp) (by simp [closedL,V.closed]) ?_
  by_cases c1:size < 1
  · simp (maxSteps:=1000000) (disch:=omega) only [rg,gD,simprocAttr,c111,c1]
    (refine fin_x rfl ?_ ?_<;>simp [pack,lo,loL,V.closed,closedL,mv_closed,sV,putS,c1])
  by_cases c2:6 < size
  · simp (maxSteps:=1000000) (disch:=omega) only [rg,gD,simprocAttr,c111,c1,c2]
    (refine fin_x rfl ?_ ?_<;>simp [pack,lo,loL,V.closed,closedL,mv_closed,sV,putS,c2])
  by_cases c3:n < 0
  · simp (maxSteps:=1000000) (disch:=omega) only [rg,gD,simprocAttr,c111,c1,c2,c3]
    (refine fin_x rfl ?_ ?_<;>simp [pack,lo,loL,V.closed,closedL,mv_closed,sV,putS,c3])
  obtain ⟨k,rfl⟩:∃ k:Nat,size=k:=⟨size.toNat,by omega⟩
  obtain ⟨N,rfl⟩:∃ k:Nat,n=k:=⟨n.toNat,by omega⟩
  simp (maxSteps:=1000000) (disch:=omega) only [rg,gD,simprocAttr,c111,c1,c2,c3]
  refine ⟨_,ref_power k (by omega), ?_⟩
  by_cases c4:256 ^ k≤N
  · have h0:((256 ^ k:Nat):Int)≤N:=by omega
    have:(256:Int) ^ k≤N:=by exact_mod_cast c4
    simp (maxSteps:=1000000) (disch:=omega) only [rg,gD,simprocAttr,h0]
    (refine fin_x rfl ?_ ?_<;>simp [pack,lo,loL,V.closed,closedL,mv_closed,sV,putS,this])
  have c5:¬ (256:Int) ^ k≤N:=by intro h; exact c4 (by exact_mod_cast h)
  have h0:¬ ((256 ^ k:Nat):Int)≤N:=by omega
  have hput:putS N k=(beS k N,0):=by
    unfold putS; rw [if_neg (by simp only [Int.toNat_natCast]; omega)]; simp
  simp (maxSteps:=1000000) (disch:=omega) only [rg,gD,simprocAttr,h0]
  refine x_it k (fun i σ H => ∃ v,σ=[(0,.int .i64 N),(6,v),(7,.int .i64 (k - 1 - i))]∧((i=0∧v=.fsl .full 1 [])∨∃ id,id < H.n∧v=.sl id 0 i∧0 < i∧H.m id=some (.arr 1 (u8V ((beS k N).take i))))) ⟨_,by simp,.inl ⟨rfl,rfl⟩⟩ ?_
  rintro T i σ ⟨q,m⟩ hi ⟨v,rfl,hv⟩ hN hX hR
  simp only at hv
  simp (maxSteps:=1000000) (disch:=omega) only [rg,gD,simprocAttr]
  refine ⟨fun h => ?_,fun h => ?_⟩
  · have i1:i < k:=by omega
    have hik:((k:Int) - 1 - i)=((k - 1 - i:Nat):Int):=by omega
    rw [hik]
    refine ⟨_,ref_power (k - 1 - i) (by omega), ?_⟩
    have hpos:0 < 256 ^ (k - 1 - i):=Nat.pow_pos (by omega)
    have hdiv:((N:Int) / ((256 ^ (k - 1 - i):Nat):Int))=((N / 256 ^ (k - 1 - i):Nat):Int):=by simp
    have hmod:(((N / 256 ^ (k - 1 - i):Nat):Int) % 256)=((N / 256 ^ (k - 1 - i) % 256:Nat):Int):=by simp
    have hle:N / 256 ^ (k - 1 - i)≤N:=Nat.div_le_self _ _
    have hs1:∀ l:List UInt8,l=(beS k N).take i→u8V l++[.int .u8 (UInt8.ofNat (N / 256 ^ (k - 1 - i) % 256)).toNat]=u8V ((beS k N).take (i+1)):=fun l hl => by
      have hlt:i < (beS k N).length:=by rw [beS_len]; exact i1
      rw [hl,List.take_succ_eq_append_getElem hlt,beS_get k N i hlt]
      simp [u8V,mv]
    have hz:¬ ((256 ^ (k - 1 - i):Nat):Int)=0:=by omega
    have hz2:(0:Int) < ((256 ^ (k - 1 - i):Nat):Int):=by omega
    have e4:=byte_of N (k - 1 - i)
    generalize N / 256 ^ (k - 1 - i)=D at hdiv hmod hle hs1 e4
    generalize ((256 ^ (k - 1 - i):Nat):Int)=Z at hdiv hz hz2
    rcases hv with ⟨rfl,rfl⟩ | ⟨id,hid,rfl,h0,hm⟩
    · simp (maxSteps:=1000000) (disch:=omega) only [rg,gD,simprocAttr,appO,hdiv,hmod,e4]
      refine ⟨hz,hN _ _ i1 ⟨_, ?_,.inr ⟨q,by simp,rfl,by omega, ?_⟩⟩⟩
      · simp; omega
      · rw [← hs1 [] (by simp)]; simp [upd,u8V,mv]
    · have hl2:(u8V ((beS k N).take i)).length=i:=by rw [u8V_len]; simp [beS_len]; omega
      have ht2:List.take i (u8V ((beS k N).take i))=u8V ((beS k N).take i):=List.take_of_length_le (by omega)
      simp (maxSteps:=1000000) (disch:=omega) only [rg,gD,simprocAttr,appO,hdiv,hmod,e4,hm,hl2,ht2,hs1 _ rfl]
      refine ⟨hz,by omega,hN _ _ i1 ⟨_, ?_,.inr ⟨q,by simp,rfl,by omega,(by simp (disch:=omega) only [upd_eq,upd_ne,wo_0,wo_1,wo_2])⟩⟩⟩
      simp; omega
  · obtain rfl:i=k:=by omega
    refine hX _ _ _ ?_
    simp (maxSteps:=1000000) (disch:=omega) only [rg,gD,simprocAttr]
    refine x_frz0 ?_
    rcases hv with ⟨rfl,rfl⟩ | ⟨id,hid,rfl,h0,hm⟩
    · omega
    · simp (maxSteps:=1000000) (disch:=omega) only [rg,gD,simprocAttr,hm]
      refine ⟨beS i N,by rw [List.take_of_length_le (by rw [beS_len]; omega),if_pos (by simp [u8V_len,beS_len]),List.take_of_length_le (by simp [u8V_len,beS_len])]; rfl, ?_⟩
      simp (maxSteps:=1000000) (disch:=omega) only [rg,gD,simprocAttr]
      (refine fin_x rfl ?_ ?_<;>simp [pack,lo,loL,V.closed,closedL,mv_closed,sV,hput])
theorem beS_two (n:Nat) (h:n < 65536):beS 2 n=[UInt8.ofNat (n / 256),UInt8.ofNat (n % 256)]:=by
  show []++[UInt8.ofNat (n / 256 % 256)]++[UInt8.ofNat (n % 256)]=_
  rw [Nat.mod_eq_of_lt (a:=n / 256) (by omega)]; rfl
theorem ref_text (s:Str) (hs:s.length≤140737488355328):PCall Tryz.prog 109 [.str s] (sV (textS s)):=by
  refine en109 (by simp) (by simp [closedL,V.closed]) ?_
  simp (maxSteps:=1000000) (disch:=omega) only [rg,gD,simprocAttr,c109]
  refine ⟨fun h => ?_,fun h => ?_⟩
  · (refine fin_x rfl ?_ ?_<;>simp [pack,lo,loL,V.closed,closedL,mv_closed,sV,textS,show 65535 < s.length by omega])
  · have h1:s.length < 65536:=by omega
    have q1:IntKind.u8.wrap ((s.length:Int) / 256)=((UInt8.ofNat (s.length / 256)).toNat:Int):=by
      rw [show ((s.length:Int) / 256)=((s.length / 256:Nat):Int) by omega,wrap_u8,Nat.mod_eq_of_lt (by omega)]
    have q2:IntKind.u8.wrap ((s.length:Int) % 256)=((UInt8.ofNat (s.length % 256)).toNat:Int):=by
      rw [show ((s.length:Int) % 256)=((s.length % 256:Nat):Int) by omega,wrap_u8,Nat.mod_mod]
    simp (maxSteps:=1000000) (disch:=omega) only [rg,gD,simprocAttr,q1,q2]
    refine ⟨[UInt8.ofNat (s.length / 256),UInt8.ofNat (s.length % 256)],rfl, ?_⟩
    simp (maxSteps:=1000000) (disch:=omega) only [rg,gD,simprocAttr]
    refine ⟨by omega, ?_⟩
    (refine fin_x rfl ?_ ?_<;>simp [pack,lo,loL,V.closed,closedL,mv_closed,sV,textS,show ¬ 65535 < s.length by omega,beS_two s.length h1])
abbrev B32:=BitVec 32
def poly:B32:=0x82f63b78#32
def stepB (c:B32):B32:=(c >>> 1) ^^^ (if c.getLsbD 0 then poly else 0#32)
def stepsB:Nat→B32→B32
  | 0,c => c
  | n+1,c => stepB (stepsB n c)
def byte32 (b:UInt8):B32:=BitVec.ofNat 32 b.toNat
def byteB (c:B32) (b:UInt8):B32:=stepsB 8 (c ^^^ byte32 b)
def bitB (c:B32) (t:Bool):B32:=(c >>> 1) ^^^ (if c.getLsbD 0 != t then poly else 0#32)
def bitsB (b:UInt8):Nat→B32→B32
  | 0,c => c
  | n+1,c => bitB (bitsB b n c) ((byte32 b).getLsbD n)
theorem bits_steps (c:B32) (b:UInt8):∀ n,stepsB n (c ^^^ byte32 b)=bitsB b n c ^^^ (byte32 b >>> n)
  | 0 => by simp [stepsB,bitsB]
  | n+1 => by
    rw [stepsB,bits_steps c b n,stepB,bitsB,bitB,BitVec.ushiftRight_xor_distrib,BitVec.getLsbD_xor,BitVec.shiftRight_add]
    simp only [BitVec.getLsbD_ushiftRight,Nat.add_zero]
    rw [show ((bitsB b n c).getLsbD 0 ^^ (byte32 b).getLsbD n)=((bitsB b n c).getLsbD 0 != (byte32 b).getLsbD n) from rfl,BitVec.xor_assoc,BitVec.xor_assoc]
    congr 1
    rw [BitVec.xor_comm]
theorem byte32_shift (b:UInt8):byte32 b >>> 8=0#32:=by
  have:=b.toNat_lt
  apply BitVec.eq_of_toNat_eq
  simp [byte32,Nat.shiftRight_eq_div_pow]; omega
theorem bits_byte (c:B32) (b:UInt8):bitsB b 8 c=byteB c b:=by
  rw [byteB,bits_steps,byte32_shift]; simp
def onS (c:B32) (s:Str):B32 := ~~~ (s.foldl byteB (~~~ c))
def crcS (s:Str):B32:=onS 0#32 s
def w32 (c:B32):V:=.int .u32 c.toNat
theorem wrap_32 (c:B32):IntKind.u32.wrap (c.toNat:Int)=c.toNat:=by
  have:=c.isLt
  simp [IntKind.wrap,IntKind.bits,IntKind.signed]; omega
theorem bits_xor (a b:B32):bits2 .xor .u32 (a.toNat:Int) (b.toNat:Int)=((a ^^^ b).toNat:Int):=by
  show IntKind.u32.wrap (((BitVec.ofInt 32 (a.toNat:Int) ^^^ BitVec.ofInt 32 (b.toNat:Int)):BitVec 32).toNat:Int)=_
  rw [BitVec.ofInt_natCast,BitVec.ofInt_natCast,BitVec.ofNat_toNat,BitVec.ofNat_toNat,BitVec.setWidth_eq,BitVec.setWidth_eq]
  exact wrap_32 _
theorem bits_and (a b:B32):bits2 .and .u32 (a.toNat:Int) (b.toNat:Int)=((a &&& b).toNat:Int):=by
  show IntKind.u32.wrap (((BitVec.ofInt 32 (a.toNat:Int) &&& BitVec.ofInt 32 (b.toNat:Int)):BitVec 32).toNat:Int)=_
  rw [BitVec.ofInt_natCast,BitVec.ofInt_natCast,BitVec.ofNat_toNat,BitVec.ofNat_toNat,BitVec.setWidth_eq,BitVec.setWidth_eq]
  exact wrap_32 _
theorem low_bit (c:B32):(c &&& 1#32)=if c.getLsbD 0 then 1#32 else 0#32:=by
  apply BitVec.eq_of_toNat_eq
  have h:c.getLsbD 0=decide (c.toNat % 2=1):=by simp [BitVec.getLsbD,Nat.testBit_zero]
  rw [h]
  simp only [BitVec.toNat_and,BitVec.toNat_ofNat]
  have:c.toNat &&& 1=c.toNat % 2:=Nat.and_one_is_mod _
  by_cases k:c.toNat % 2=1
  · simp [k,this]
  · simp [k,this]; omega
theorem neg_bit (c:B32):IntKind.u32.wrap (0 - ((c &&& 1#32).toNat:Int))=((if c.getLsbD 0 then BitVec.allOnes 32 else 0#32).toNat:Int):=by
  rw [low_bit]
  cases c.getLsbD 0<;>rfl
theorem half (c:B32):((c.toNat:Int).fdiv (2 ^ min 1 32))=((c >>> 1).toNat:Int):=by
  simp [Nat.shiftRight_eq_div_pow,Int.fdiv_eq_ediv_of_nonneg]
theorem step_eq (c:B32):((c >>> 1) ^^^ (poly &&& (if c.getLsbD 0 then BitVec.allOnes 32 else 0#32)))=stepB c:=by
  unfold stepB
  cases c.getLsbD 0
  · show (c >>> 1) ^^^ (poly &&& 0#32)=_; rw [BitVec.and_zero]; rfl
  · show (c >>> 1) ^^^ (poly &&& BitVec.allOnes 32)=_; rw [BitVec.and_allOnes]; rfl
theorem byte_cast (b:UInt8):IntKind.u32.wrap (b.toNat:Int)=((byte32 b).toNat:Int):=by
  have:=b.toNat_lt
  simp [byte32,IntKind.wrap,IntKind.bits,IntKind.signed]; omega
theorem not_32 (c:B32):bits2 .xor .u32 (4294967295:Int) (c.toNat:Int)=((~~~ c).toNat:Int):=by
  rw [show (4294967295:Int)=((BitVec.allOnes 32).toNat:Int) from rfl,bits_xor,BitVec.allOnes_xor]
theorem max_32:(2 ^ 32 - 1:Int)=4294967295:=rfl
theorem sum_on (c:B32) (s:Str) (hs:s.length≤1000000000):PCall Tryz.prog 135 [w32 c,.str s] (w32 (onS c s)):=by
  refine en135 (by simp) (by simp [closedL,V.closed,w32]) ?_
  simp (maxSteps:=1000000) (disch:=omega) only [rg,gD,Nat.reduceBEq,Nat.reduceEqDiff,Nat.reduceAdd,Int.reduceEq,Int.reduceLT,Int.reduceLE,Int.reduceToNat,reduceIte,reduceCtorEq,Nat.reduceLeDiff,Nat.reduceLT,Nat.reduceMul,Nat.reduceSub,c135,w32,u8_fold,u8V_len,IntKind.signed,IntKind.max,IntKind.bits,max_32,not_32]
  refine x_itp s.length (fun _ => True) (fun i => [(5,.int .u32 (((s.take i).foldl byteB (~~~ c)).toNat)),(11,.fsl .loose 1 (u8V s)),(12,.int .i64 s.length),(13,.int .i64 i)]) trivial rfl ?_
  intro T i hi _ hN hX hR
  simp (maxSteps:=1000000) (disch:=omega) only [rg,gD,Nat.reduceBEq,Nat.reduceEqDiff,Nat.reduceAdd,Int.reduceEq,Int.reduceLT,Int.reduceLE,Int.reduceToNat,reduceIte,reduceCtorEq,Nat.reduceLeDiff,Nat.reduceLT,Nat.reduceMul,Nat.reduceSub]
  refine ⟨fun h => ?_,fun h => ?_⟩
  · have i1:i < s.length:=by omega
    simp (maxSteps:=1000000) (disch:=omega) only [rg,gD,Nat.reduceBEq,Nat.reduceEqDiff,Nat.reduceAdd,Int.reduceEq,Int.reduceLT,Int.reduceLE,Int.reduceToNat,reduceIte,reduceCtorEq,Nat.reduceLeDiff,Nat.reduceLT,Nat.reduceMul,Nat.reduceSub,u8V_get,byte_cast,bits_xor]
    refine x_itp 8 (fun _ => True) (fun j => [(5,.int .u32 ((stepsB j (((s.take i).foldl byteB (~~~ c)) ^^^ byte32 s[i])).toNat)),(11,.fsl .loose 1 (u8V s)),(12,.int .i64 s.length),(13,.int .i64 i),(21,.int .i64 j)]) trivial rfl ?_
    intro T2 j hj _ hN2 hX2 hR2
    have hstep:stepsB (j+1) (((s.take i).foldl byteB (~~~ c)) ^^^ byte32 s[i])=stepB (stepsB j (((s.take i).foldl byteB (~~~ c)) ^^^ byte32 s[i])):=rfl
    generalize hd:stepsB j (((s.take i).foldl byteB (~~~ c)) ^^^ byte32 s[i])=d at hstep ⊢
    have e1:bits2 .and .u32 (d.toNat:Int) 1=((d &&& 1#32).toNat:Int):=bits_and d 1#32
    have e2:=half d
    have e3:∀ x:B32,bits2 .and .u32 2197175160 (x.toNat:Int)=((poly &&& x).toNat:Int):=fun x => bits_and poly x
    simp (maxSteps:=1000000) (disch:=omega) only [rg,gD,Nat.reduceBEq,Nat.reduceEqDiff,Nat.reduceAdd,Int.reduceEq,Int.reduceLT,Int.reduceLE,Int.reduceToNat,reduceIte,reduceCtorEq,Nat.reduceLeDiff,Nat.reduceLT,Nat.reduceMul,Nat.reduceSub]
    refine ⟨fun h2 => ?_,fun h2 => ?_⟩
    · simp (maxSteps:=1000000) (disch:=omega) only [rg,gD,Nat.reduceBEq,Nat.reduceEqDiff,Nat.reduceAdd,Int.reduceEq,Int.reduceLT,Int.reduceLE,Int.reduceToNat,reduceIte,reduceCtorEq,Nat.reduceLeDiff,Nat.reduceLT,Nat.reduceMul,Nat.reduceSub,e1,neg_bit,e3,IntKind.bits,show (1:Int).toNat=1 from rfl,e2,bits_xor,step_eq]
      exact hN2 _ (by omega) trivial (by rw [hstep]; rfl)
    · obtain rfl:j=8:=by omega
      refine hX2 _ _ _ ?_
      simp (maxSteps:=1000000) (disch:=omega) only [rg,gD,Nat.reduceBEq,Nat.reduceEqDiff,Nat.reduceAdd,Int.reduceEq,Int.reduceLT,Int.reduceLE,Int.reduceToNat,reduceIte,reduceCtorEq,Nat.reduceLeDiff,Nat.reduceLT,Nat.reduceMul,Nat.reduceSub]
      refine x_frz0 ?_
      simp (maxSteps:=1000000) (disch:=omega) only [rg,gD,Nat.reduceBEq,Nat.reduceEqDiff,Nat.reduceAdd,Int.reduceEq,Int.reduceLT,Int.reduceLE,Int.reduceToNat,reduceIte,reduceCtorEq,Nat.reduceLeDiff,Nat.reduceLT,Nat.reduceMul,Nat.reduceSub]
      refine hN _ i1 trivial ?_
      rw [List.take_succ_eq_append_getElem i1,List.foldl_append]
      show _=[(5,V.int .u32 ((byteB _ s[i]).toNat:Int)),_,_,_]
      rw [byteB,hd]
      rfl
  · obtain rfl:i=s.length:=by omega
    rw [List.take_length]
    refine hX _ _ _ ?_
    simp (maxSteps:=1000000) (disch:=omega) only [rg,gD,Nat.reduceBEq,Nat.reduceEqDiff,Nat.reduceAdd,Int.reduceEq,Int.reduceLT,Int.reduceLE,Int.reduceToNat,reduceIte,reduceCtorEq,Nat.reduceLeDiff,Nat.reduceLT,Nat.reduceMul,Nat.reduceSub]
    refine x_frz0 ?_
    simp (maxSteps:=1000000) (disch:=omega) only [rg,gD,Nat.reduceBEq,Nat.reduceEqDiff,Nat.reduceAdd,Int.reduceEq,Int.reduceLT,Int.reduceLE,Int.reduceToNat,reduceIte,reduceCtorEq,Nat.reduceLeDiff,Nat.reduceLT,Nat.reduceMul,Nat.reduceSub,IntKind.signed,IntKind.max,IntKind.bits,max_32,not_32]
    (refine fin_x rfl ?_ ?_<;>simp [pack,lo,loL,V.closed,closedL,mv_closed,onS])
theorem sum_of (st:St) (l:List Str) (hl:l.length≤1000) (hs:∀ s∈l,s.length≤1000000000):PCall Tryz.prog 133 [.fsl st 1 (vS l)] (w32 (l.foldl onS 0#32)):=by
  refine en133 (by simp) (by simp [closedL,V.closed,vS_closed]) ?_
  simp (maxSteps:=1000000) (disch:=omega) only [rg,gD,Nat.reduceBEq,Nat.reduceEqDiff,Nat.reduceAdd,Int.reduceEq,Int.reduceLT,Int.reduceLE,Int.reduceToNat,reduceIte,reduceCtorEq,Nat.reduceLeDiff,Nat.reduceLT,Nat.reduceMul,Nat.reduceSub,c133,vS]
  refine x_itp l.length (fun _ => True) (fun i => [(3,w32 ((l.take i).foldl onS 0#32)),(6,.fsl st 1 (mv V.str l)),(7,.int .i64 l.length),(8,.int .i64 i)]) trivial rfl ?_
  intro T i hi _ hN hX hR
  simp (maxSteps:=1000000) (disch:=omega) only [rg,gD,Nat.reduceBEq,Nat.reduceEqDiff,Nat.reduceAdd,Int.reduceEq,Int.reduceLT,Int.reduceLE,Int.reduceToNat,reduceIte,reduceCtorEq,Nat.reduceLeDiff,Nat.reduceLT,Nat.reduceMul,Nat.reduceSub]
  refine ⟨fun h => ?_,fun h => ?_⟩
  · have i1:i < l.length:=by omega
    simp (maxSteps:=1000000) (disch:=omega) only [rg,gD,Nat.reduceBEq,Nat.reduceEqDiff,Nat.reduceAdd,Int.reduceEq,Int.reduceLT,Int.reduceLE,Int.reduceToNat,reduceIte,reduceCtorEq,Nat.reduceLeDiff,Nat.reduceLT,Nat.reduceMul,Nat.reduceSub]
    refine ⟨_,sum_on _ l[i] (hs _ (List.getElem_mem i1)), ?_⟩
    simp (maxSteps:=1000000) (disch:=omega) only [rg,gD,Nat.reduceBEq,Nat.reduceEqDiff,Nat.reduceAdd,Int.reduceEq,Int.reduceLT,Int.reduceLE,Int.reduceToNat,reduceIte,reduceCtorEq,Nat.reduceLeDiff,Nat.reduceLT,Nat.reduceMul,Nat.reduceSub]
    refine hN _ i1 trivial ?_
    rw [List.take_succ_eq_append_getElem i1,List.foldl_append]
    rfl
  · obtain rfl:i=l.length:=by omega
    rw [List.take_length]
    refine hX _ _ _ ?_
    simp (maxSteps:=1000000) (disch:=omega) only [rg,gD,Nat.reduceBEq,Nat.reduceEqDiff,Nat.reduceAdd,Int.reduceEq,Int.reduceLT,Int.reduceLE,Int.reduceToNat,reduceIte,reduceCtorEq,Nat.reduceLeDiff,Nat.reduceLT,Nat.reduceMul,Nat.reduceSub]
    refine x_frz0 ?_
    simp (maxSteps:=1000000) (disch:=omega) only [rg,gD,Nat.reduceBEq,Nat.reduceEqDiff,Nat.reduceAdd,Int.reduceEq,Int.reduceLT,Int.reduceLE,Int.reduceToNat,reduceIte,reduceCtorEq,Nat.reduceLeDiff,Nat.reduceLT,Nat.reduceMul,Nat.reduceSub]
    (refine fin_x rfl ?_ ?_<;>simp [pack,lo,loL,V.closed,closedL,mv_closed,w32])
def le4 (c:B32):Str:=[UInt8.ofNat (c.toNat % 256),UInt8.ofNat (c.toNat / 256 % 256),UInt8.ofNat (c.toNat / 65536 % 256),UInt8.ofNat (c.toNat / 16777216 % 256)]
def sealS (s:Str):Str:=s++le4 (crcS s)
theorem sum_seal (s:Str) (hs:s.length≤1000000000):PCall Tryz.prog 123 [.str s] (.str (sealS s)):=by
  refine en123 (by simp) (by simp [closedL,V.closed]) ?_
  simp (maxSteps:=1000000) (disch:=omega) only [rg,gD,Nat.reduceBEq,Nat.reduceEqDiff,Nat.reduceAdd,Int.reduceEq,Int.reduceLT,Int.reduceLE,Int.reduceToNat,reduceIte,reduceCtorEq,Nat.reduceLeDiff,Nat.reduceLT,Nat.reduceMul,Nat.reduceSub,c123]
  refine ⟨_,sum_of .full [s] (by simp) (by simpa using hs), ?_⟩
  simp only [List.foldl_cons,List.foldl_nil]
  have hc:onS 0#32 s=crcS s:=rfl
  rw [hc]
  have h:=(crcS s).isLt
  have hle:(le4 (crcS s)).length=4:=rfl
  have q0:IntKind.u8.wrap ((crcS s).toNat:Int)=((UInt8.ofNat ((crcS s).toNat % 256)).toNat:Int):=wrap_u8 _
  have q1:IntKind.u8.wrap (((crcS s).toNat:Int).fdiv (2 ^ min 8 32))=((UInt8.ofNat ((crcS s).toNat / 256 % 256)).toNat:Int):=by
    rw [← wrap_u8,Int.fdiv_eq_ediv_of_nonneg _ (by simp)]; simp
  have q2:IntKind.u8.wrap (((crcS s).toNat:Int).fdiv (2 ^ min 16 32))=((UInt8.ofNat ((crcS s).toNat / 65536 % 256)).toNat:Int):=by
    rw [← wrap_u8,Int.fdiv_eq_ediv_of_nonneg _ (by simp)]; simp
  have q3:IntKind.u8.wrap (((crcS s).toNat:Int).fdiv (2 ^ min 24 32))=((UInt8.ofNat ((crcS s).toNat / 16777216 % 256)).toNat:Int):=by
    rw [← wrap_u8,Int.fdiv_eq_ediv_of_nonneg _ (by simp)]; simp
  simp (maxSteps:=1000000) (disch:=omega) only [rg,gD,Nat.reduceBEq,Nat.reduceEqDiff,Nat.reduceAdd,Int.reduceEq,Int.reduceLT,Int.reduceLE,Int.reduceToNat,reduceIte,reduceCtorEq,Nat.reduceLeDiff,Nat.reduceLT,Nat.reduceMul,Nat.reduceSub,w32,IntKind.bits,q0,q1,q2,q3]
  refine ⟨le4 (crcS s),rfl, ?_⟩
  simp (maxSteps:=1000000) (disch:=omega) only [rg,gD,Nat.reduceBEq,Nat.reduceEqDiff,Nat.reduceAdd,Int.reduceEq,Int.reduceLT,Int.reduceLE,Int.reduceToNat,reduceIte,reduceCtorEq,Nat.reduceLeDiff,Nat.reduceLT,Nat.reduceMul,Nat.reduceSub]
  refine ⟨_,code_all .full [s,le4 (crcS s)] (by simp) (by simp [hle]; omega), ?_⟩
  simp (maxSteps:=1000000) (disch:=omega) only [rg,gD,Nat.reduceBEq,Nat.reduceEqDiff,Nat.reduceAdd,Int.reduceEq,Int.reduceLT,Int.reduceLE,Int.reduceToNat,reduceIte,reduceCtorEq,Nat.reduceLeDiff,Nat.reduceLT,Nat.reduceMul,Nat.reduceSub]
  (refine fin_x rfl ?_ ?_<;>simp [pack,lo,loL,V.closed,closedL,mv_closed,sealS])
theorem byte32_toNat (b:UInt8):(byte32 b).toNat=b.toNat:=by
  have:=b.toNat_lt
  simp [byte32]
theorem bit_cast (b:UInt8) (k:Nat) (hk:k < 8):(((byte32 b).toNat:Int).fdiv (2 ^ min (IntKind.u64.wrap (k:Int)).toNat 32)).tmod 2=if (byte32 b).getLsbD k then 1 else 0:=by
  have hw:IntKind.u64.wrap (k:Int)=k:=by simp [IntKind.wrap,IntKind.bits,IntKind.signed]; omega
  rw [hw,byte32_toNat,show min (k:Int).toNat 32=k by omega,Int.fdiv_eq_ediv_of_nonneg _ (Int.pow_nonneg (by omega)),Int.tmod_eq_emod_of_nonneg (Int.ediv_nonneg (by omega) (Int.pow_nonneg (by omega)))]
  have e:(byte32 b).getLsbD k=decide (b.toNat / 2 ^ k % 2=1):=by
    simp only [byte32,BitVec.getLsbD_ofNat,Nat.testBit_eq_decide_div_mod_eq]
    simp; omega
  rw [e,show ((b.toNat:Int) / 2 ^ k % 2)=((b.toNat / 2 ^ k % 2:Nat):Int) by norm_cast]
  by_cases h:b.toNat / 2 ^ k % 2=1
  · simp [h]
  · have:b.toNat / 2 ^ k % 2=0:=by omega
    simp [this]
theorem low_cast (c:B32):((c.toNat:Int) % 2)=if c.getLsbD 0 then 1 else 0:=by
  have h:c.getLsbD 0=decide (c.toNat % 2=1):=by simp [BitVec.getLsbD,Nat.testBit_zero]
  rw [h]
  by_cases k:c.toNat % 2=1
  · simp [k]; omega
  · simp [k]; omega
theorem half2 (c:B32):(Nat.cast c.toNat:Int) / (2:Int)=((c >>> 1).toNat:Int):=by
  simp [Nat.shiftRight_eq_div_pow]
theorem not_sub (c:B32):(4294967295:Int) - (c.toNat:Int)=((~~~ c).toNat:Int):=by
  have:=c.isLt
  rw [BitVec.toNat_not]; omega
theorem xor_poly (c:B32):bits2 .xor .u32 (c.toNat:Int) 2197175160=((c ^^^ poly).toNat:Int):=bits_xor c poly
theorem ref_on (c:B32) (s:Str) (hs:s.length≤1000000000):PCall Tryz.prog 130 [w32 c,.str s] (w32 (onS c s)):=by
  refine en130 (by simp) (by simp [closedL,V.closed,w32]) ?_
  simp (maxSteps:=1000000) (disch:=omega) only [rg,gD,Nat.reduceBEq,Nat.reduceEqDiff,Nat.reduceAdd,Int.reduceEq,Int.reduceLT,Int.reduceLE,Int.reduceToNat,reduceIte,reduceCtorEq,Nat.reduceLeDiff,Nat.reduceLT,Nat.reduceMul,Nat.reduceSub,c130,w32,not_sub,wrap_32]
  refine x_itp s.length (fun _ => True) (fun i => [(1,.str s),(5,.int .u32 (((s.take i).foldl byteB (~~~ c)).toNat)),(6,.int .i64 i)]) trivial rfl ?_
  intro T i hi _ hN hX hR
  simp (maxSteps:=1000000) (disch:=omega) only [rg,gD,Nat.reduceBEq,Nat.reduceEqDiff,Nat.reduceAdd,Int.reduceEq,Int.reduceLT,Int.reduceLE,Int.reduceToNat,reduceIte,reduceCtorEq,Nat.reduceLeDiff,Nat.reduceLT,Nat.reduceMul,Nat.reduceSub]
  refine ⟨fun h => ?_,fun h => ?_⟩
  · have i1:i < s.length:=by omega
    refine x_itp 8 (fun _ => True) (fun j => [(1,.str s),(5,.int .u32 ((bitsB s[i] j ((s.take i).foldl byteB (~~~ c))).toNat)),(6,.int .i64 i),(7,.int .i64 j)]) trivial rfl ?_
    intro T2 j hj _ hN2 hX2 hR2
    have hstep:bitsB s[i] (j+1) ((s.take i).foldl byteB (~~~ c))=bitB (bitsB s[i] j ((s.take i).foldl byteB (~~~ c))) ((byte32 s[i]).getLsbD j):=rfl
    generalize hd:bitsB s[i] j ((s.take i).foldl byteB (~~~ c))=d at hstep ⊢
    have hget:s[i]?=some s[i]:=by simp [i1]
    simp (maxSteps:=1000000) (disch:=omega) only [rg,gD,Nat.reduceBEq,Nat.reduceEqDiff,Nat.reduceAdd,Int.reduceEq,Int.reduceLT,Int.reduceLE,Int.reduceToNat,reduceIte,reduceCtorEq,Nat.reduceLeDiff,Nat.reduceLT,Nat.reduceMul,Nat.reduceSub]
    refine ⟨fun h2 => ?_,fun h2 => ?_⟩
    · have hj8:j < 8:=by omega
      have hw:0≤IntKind.u64.wrap (j:Int):=by simp [IntKind.wrap,IntKind.bits,IntKind.signed]; omega
      simp (maxSteps:=1000000) (disch:=omega) only [rg,gD,Nat.reduceBEq,Nat.reduceEqDiff,Nat.reduceAdd,Int.reduceEq,Int.reduceLT,Int.reduceLE,Int.reduceToNat,reduceIte,reduceCtorEq,Nat.reduceLeDiff,Nat.reduceLT,Nat.reduceMul,Nat.reduceSub,hget,byte_cast,IntKind.bits]
      refine ⟨hw,fun h3 => ?_,fun h3 => ?_⟩
      · rw [low_cast,bit_cast _ _ hj8] at h3
        rw [half2,wrap_32,xor_poly]
        refine hN2 _ hj8 trivial ?_
        have hc:(d.getLsbD 0 != (byte32 s[i]).getLsbD j)=true:=by revert h3; cases d.getLsbD 0<;>cases (byte32 s[i]).getLsbD j<;>simp
        rw [hstep,bitB,hc]
        rfl
      · rw [low_cast,bit_cast _ _ hj8] at h3
        rw [half2,wrap_32]
        refine hN2 _ hj8 trivial ?_
        have hc:(d.getLsbD 0 != (byte32 s[i]).getLsbD j)=false:=by revert h3; cases d.getLsbD 0<;>cases (byte32 s[i]).getLsbD j<;>simp
        rw [hstep,bitB,hc]
        rw [if_neg (by simp),BitVec.xor_zero]; rfl
    · obtain rfl:j=8:=by omega
      refine hX2 _ _ _ ?_
      simp (maxSteps:=1000000) (disch:=omega) only [rg,gD,Nat.reduceBEq,Nat.reduceEqDiff,Nat.reduceAdd,Int.reduceEq,Int.reduceLT,Int.reduceLE,Int.reduceToNat,reduceIte,reduceCtorEq,Nat.reduceLeDiff,Nat.reduceLT,Nat.reduceMul,Nat.reduceSub]
      refine x_frz0 ?_
      simp (maxSteps:=1000000) (disch:=omega) only [rg,gD,Nat.reduceBEq,Nat.reduceEqDiff,Nat.reduceAdd,Int.reduceEq,Int.reduceLT,Int.reduceLE,Int.reduceToNat,reduceIte,reduceCtorEq,Nat.reduceLeDiff,Nat.reduceLT,Nat.reduceMul,Nat.reduceSub]
      refine hN _ i1 trivial ?_
      rw [List.take_succ_eq_append_getElem i1,List.foldl_append]
      show _=[_,(5,V.int .u32 ((byteB _ s[i]).toNat:Int)),_]
      rw [← bits_byte,hd]
      rfl
  · obtain rfl:i=s.length:=by omega
    rw [List.take_length]
    refine hX _ _ _ ?_
    simp (maxSteps:=1000000) (disch:=omega) only [rg,gD,Nat.reduceBEq,Nat.reduceEqDiff,Nat.reduceAdd,Int.reduceEq,Int.reduceLT,Int.reduceLE,Int.reduceToNat,reduceIte,reduceCtorEq,Nat.reduceLeDiff,Nat.reduceLT,Nat.reduceMul,Nat.reduceSub]
    refine x_frz0 ?_
    simp (maxSteps:=1000000) (disch:=omega) only [rg,gD,Nat.reduceBEq,Nat.reduceEqDiff,Nat.reduceAdd,Int.reduceEq,Int.reduceLT,Int.reduceLE,Int.reduceToNat,reduceIte,reduceCtorEq,Nat.reduceLeDiff,Nat.reduceLT,Nat.reduceMul,Nat.reduceSub,not_sub,wrap_32]
    (refine fin_x rfl ?_ ?_<;>simp [pack,lo,loL,V.closed,closedL,mv_closed,onS])
theorem ref_of (s:Str) (hs:s.length≤1000000000):PCall Tryz.prog 112 [.str s] (w32 (crcS s)):=by
  refine en112 (by simp) (by simp [closedL,V.closed]) ?_
  have k:=ref_on 0#32 s hs
  simp (maxSteps:=1000000) (disch:=omega) only [rg,gD,Nat.reduceBEq,Nat.reduceEqDiff,Nat.reduceAdd,Int.reduceEq,Int.reduceLT,Int.reduceLE,Int.reduceToNat,reduceIte,reduceCtorEq,Nat.reduceLeDiff,Nat.reduceLT,Nat.reduceMul,Nat.reduceSub,c112]
  refine ⟨_,k, ?_⟩
  simp (maxSteps:=1000000) (disch:=omega) only [rg,gD,Nat.reduceBEq,Nat.reduceEqDiff,Nat.reduceAdd,Int.reduceEq,Int.reduceLT,Int.reduceLE,Int.reduceToNat,reduceIte,reduceCtorEq,Nat.reduceLeDiff,Nat.reduceLT,Nat.reduceMul,Nat.reduceSub]
  (refine fin_x rfl ?_ ?_<;>simp [pack,lo,loL,V.closed,closedL,mv_closed,w32,crcS])
theorem ref_seal (s:Str) (hs:s.length≤1000000000):PCall Tryz.prog 83 [.str s] (.str (sealS s)):=by
  refine en83 (by simp) (by simp [closedL,V.closed]) ?_
  simp (maxSteps:=1000000) (disch:=omega) only [rg,gD,Nat.reduceBEq,Nat.reduceEqDiff,Nat.reduceAdd,Int.reduceEq,Int.reduceLT,Int.reduceLE,Int.reduceToNat,reduceIte,reduceCtorEq,Nat.reduceLeDiff,Nat.reduceLT,Nat.reduceMul,Nat.reduceSub,c83]
  refine ⟨_,ref_of s hs, ?_⟩
  have h:=(crcS s).isLt
  have q0:IntKind.u8.wrap (((crcS s).toNat:Int) % 256)=((UInt8.ofNat ((crcS s).toNat % 256)).toNat:Int):=by
    rw [show (((crcS s).toNat:Int) % 256)=(((crcS s).toNat % 256:Nat):Int) by omega,wrap_u8,Nat.mod_mod]
  have q1:IntKind.u8.wrap (((crcS s).toNat:Int) / 256 % 256)=((UInt8.ofNat ((crcS s).toNat / 256 % 256)).toNat:Int):=by
    rw [show (((crcS s).toNat:Int) / 256 % 256)=(((crcS s).toNat / 256 % 256:Nat):Int) by omega,wrap_u8,Nat.mod_mod]
  have q2:IntKind.u8.wrap (((crcS s).toNat:Int) / 65536 % 256)=((UInt8.ofNat ((crcS s).toNat / 65536 % 256)).toNat:Int):=by
    rw [show (((crcS s).toNat:Int) / 65536 % 256)=(((crcS s).toNat / 65536 % 256:Nat):Int) by omega,wrap_u8,Nat.mod_mod]
  have q3:IntKind.u8.wrap (((crcS s).toNat:Int) / 16777216)=((UInt8.ofNat ((crcS s).toNat / 16777216 % 256)).toNat:Int):=by
    rw [show (((crcS s).toNat:Int) / 16777216)=(((crcS s).toNat / 16777216:Nat):Int) by omega,wrap_u8]
  have e1:IntKind.u32.wrap (((crcS s).toNat:Int) / 256)=((crcS s).toNat:Int) / 256:=by simp [IntKind.wrap,IntKind.bits,IntKind.signed]; omega
  have e2:IntKind.u32.wrap (((crcS s).toNat:Int) / 65536)=((crcS s).toNat:Int) / 65536:=by simp [IntKind.wrap,IntKind.bits,IntKind.signed]; omega
  have e3:IntKind.u32.wrap (((crcS s).toNat:Int) / 16777216)=((crcS s).toNat:Int) / 16777216:=by simp [IntKind.wrap,IntKind.bits,IntKind.signed]; omega
  simp (maxSteps:=1000000) (disch:=omega) only [rg,gD,Nat.reduceBEq,Nat.reduceEqDiff,Nat.reduceAdd,Int.reduceEq,Int.reduceLT,Int.reduceLE,Int.reduceToNat,reduceIte,reduceCtorEq,Nat.reduceLeDiff,Nat.reduceLT,Nat.reduceMul,Nat.reduceSub,w32,e1,e2,e3,q0,q1,q2,q3]
  refine ⟨le4 (crcS s),rfl, ?_⟩
  simp (maxSteps:=1000000) (disch:=omega) only [rg,gD,Nat.reduceBEq,Nat.reduceEqDiff,Nat.reduceAdd,Int.reduceEq,Int.reduceLT,Int.reduceLE,Int.reduceToNat,reduceIte,reduceCtorEq,Nat.reduceLeDiff,Nat.reduceLT,Nat.reduceMul,Nat.reduceSub]
  refine ⟨by simp [le4]; omega, ?_⟩
  (refine fin_x rfl ?_ ?_<;>simp [pack,lo,loL,V.closed,closedL,mv_closed,sealS])
theorem fin_An {rvs:List RV} {r:V} {σ:Sg} {H:Hp} {l:List V} {m0:Hm} {n k:Nat} {ds:List (Nat×Option Ob)} (hl:resE σ H.m rvs=some l) (hr:pack l=r∨loosen (pack l)=r∨lo (pack l)=r) (hk:H.n≤n+k) (hm:∀ id,appd ds m0 id=none∨appd ds m0 id=H.m id):FinA rvs m0 n r ds k .norm σ H :=
  ⟨.inl rfl,⟨l,hl,hr⟩,hk,hm⟩
theorem c255 (n:Nat):((255:Int) < (n:Int))↔255 < n:=by omega
theorem two_flat (a b:Str):[a,b].flatten=a++b:=by simp
/-! The document's reader: where it is,and what went wrong. -/
/-! The program's reader. -/
/-! The program's writer. -/
def wrV (r:Str×Bool):Ob:=.arr 2 [.agg [.str r.1,.bool r.2]]
def wNum (r:Str×Bool) (n k:Int):Str×Bool:=(r.1++(putS n k).1,r.2 || !decide ((putS n k).2=0))
def wTxt (r:Str×Bool) (t:Str):Str×Bool:=(r.1++(textS t).1,(r.2 || !decide ((textS t).2=0)) || decide (255 < t.length))
theorem w_num (H:Hp) (b:Nat) (r:Str×Bool) (n k:Int) (hr:r.1.length≤1000000000) (hn:n≤9223372036854775807) (hb:b < H.n) (hm:H.m b=some (wrV r)) :
    ACall Tryz.prog 90 [.ptr b 0 0,.int .i64 n,.int .i64 k] H [b] (.tup []) [(b,some (wrV (wNum r n k)))] 0:=by
  refine ena90 (by simp) (by simp [lowL,V.low,hb]) (fun id hid => ?_) (by simp) ?_
  · simp at hid; subst hid
    exact ⟨hb,fun o ho => by rw [hm] at ho; simp at ho; subst ho; rfl⟩
  have q1:only [b] H.m b=some (wrV r):=by simp [only,hm]
  obtain ⟨a,e⟩:=r
  have hpl:=putS_len n k
  unfold wrV at q1
  simp (maxSteps:=1000000) (disch:=omega) only [rg,gD,simprocAttr,c90]
  refine ⟨_,code_put n k hn, ?_⟩
  simp (maxSteps:=1000000) (disch:=omega) only [rg,gD,simprocAttr,sV,q1]
  refine ⟨_,code_all .full [a,(putS n k).1] (by simp) (by simp at hr ⊢; omega), ?_⟩
  rw [two_flat]
  cases e with
  | false =>
    simp (maxSteps:=1000000) (disch:=omega) only [rg,gD,simprocAttr,q1]
    exact fin_An (l:=[]) rfl (.inl rfl) (by simp) (fun id => .inr (by by_cases h:id=b<;>simp [appd,upd,h,wrV,wNum]))
  | true =>
    simp (maxSteps:=1000000) (disch:=omega) only [rg,gD,simprocAttr,q1]
    exact fin_An (l:=[]) rfl (.inl rfl) (by simp) (fun id => .inr (by by_cases h:id=b<;>simp [appd,upd,h,wrV,wNum]))
theorem textS_len (s:Str):(textS s).1.length≤s.length+2:=by
  unfold textS; split
  · simp
  · simp [beS_len]; omega
theorem textS_len2 (s:Str):(textS s).1.length≤65537:=by
  unfold textS; split
  · simp
  · simp [beS_len]; omega
theorem w_text (H:Hp) (b:Nat) (r:Str×Bool) (t:Str) (hr:r.1.length≤1000000000) (ht:t.length≤140737488355328) (hb:b < H.n) (hm:H.m b=some (wrV r)) :
    ACall Tryz.prog 93 [.ptr b 0 0,.str t] H [b] (.tup []) [(b,some (wrV (wTxt r t)))] 0:=by
  refine ena93 (by simp) (by simp [lowL,V.low,hb]) (fun id hid => ?_) (by simp) ?_
  · simp at hid; subst hid
    exact ⟨hb,fun o ho => by rw [hm] at ho; simp at ho; subst ho; rfl⟩
  have q1:only [b] H.m b=some (wrV r):=by simp [only,hm]
  obtain ⟨a,e⟩:=r
  have hpl:=textS_len2 t
  unfold wrV at q1
  simp (maxSteps:=1000000) (disch:=omega) only [rg,gD,simprocAttr,c93]
  refine ⟨_,code_text t ht, ?_⟩
  simp (maxSteps:=1000000) (disch:=omega) only [rg,gD,simprocAttr,sV,q1]
  refine ⟨_,code_all .full [a,(textS t).1] (by simp) (by simp at hr ⊢; omega), ?_⟩
  rw [two_flat]
  by_cases c:(textS t).2=0
  · cases e with
    | false =>
      simp (maxSteps:=1000000) (disch:=omega) only [rg,gD,simprocAttr,q1,c]
      exact fin_An (l:=[]) rfl (.inl rfl) (by simp) (fun id => .inr (by by_cases h:id=b<;>simp [appd,upd,h,wrV,wTxt,c,c255]))
    | true =>
      simp (maxSteps:=1000000) (disch:=omega) only [rg,gD,simprocAttr,q1,c]
      exact fin_An (l:=[]) rfl (.inl rfl) (by simp) (fun id => .inr (by by_cases h:id=b<;>simp [appd,upd,h,wrV,wTxt,c,c255]))
  · cases e with
    | false =>
      simp (maxSteps:=1000000) (disch:=omega) only [rg,gD,simprocAttr,q1,c]
      exact fin_An (l:=[]) rfl (.inl rfl) (by simp) (fun id => .inr (by by_cases h:id=b<;>simp [appd,upd,h,wrV,wTxt,c,c255]))
    | true =>
      simp (maxSteps:=1000000) (disch:=omega) only [rg,gD,simprocAttr,q1,c]
      exact fin_An (l:=[]) rfl (.inl rfl) (by simp) (fun id => .inr (by by_cases h:id=b<;>simp [appd,upd,h,wrV,wTxt,c,c255]))
def wEnd (r:Str×Bool):Str×Int:=if r.2=true then ([],1) else (sealS r.1,0)
theorem w_end (H:Hp) (b:Nat) (r:Str×Bool) (hr:r.1.length≤1000000000) (hb:b < H.n) (hm:H.m b=some (wrV r)) :
    ACall Tryz.prog 94 [.ptr b 0 0] H [b] (sV (wEnd r)) [] 0:=by
  refine ena94 (by simp) (by simp [lowL,V.low,hb]) (fun id hid => ?_) (by simp) ?_
  · simp at hid; subst hid
    exact ⟨hb,fun o ho => by rw [hm] at ho; simp at ho; subst ho; rfl⟩
  have q1:only [b] H.m b=some (wrV r):=by simp [only,hm]
  obtain ⟨a,e⟩:=r
  unfold wrV at q1
  cases e with
  | false =>
    simp (maxSteps:=1000000) (disch:=omega) only [rg,gD,simprocAttr,c94,q1]
    refine ⟨_,sum_seal a hr, ?_⟩
    simp (maxSteps:=1000000) (disch:=omega) only [rg,gD,simprocAttr]
    exact fin_A (l:=[.str (sealS a),.int .i64 0]) rfl (.inl (by simp [pack,sV,wEnd])) (by simp) (fun id => .inr rfl)
  | true =>
    simp (maxSteps:=1000000) (disch:=omega) only [rg,gD,simprocAttr,c94,q1]
    exact fin_A (l:=[.str [],.int .i64 1]) rfl (.inl (by simp [pack,sV,wEnd])) (by simp) (fun id => .inr rfl)
theorem ref23_number (n k:Int) (hn:n≤9223372036854775807):PCall Tryz.prog 82 [.int .i64 n,.int .i64 k] (.str (putS n k).1):=by
  refine en82 (by simp) (by simp [closedL,V.closed]) ?_
  simp (maxSteps:=1000000) (disch:=omega) only [rg,gD,simprocAttr,c82]
  refine ⟨_,ref_put n k hn, ?_⟩
  simp (maxSteps:=1000000) (disch:=omega) only [rg,gD,simprocAttr,sV]
  (refine fin_x rfl ?_ ?_<;>simp [pack,lo,loL,V.closed,closedL,mv_closed])
theorem ref23_text (s:Str) (hs:s.length≤140737488355328):PCall Tryz.prog 81 [.str s] (.str (textS s).1):=by
  refine en81 (by simp) (by simp [closedL,V.closed]) ?_
  simp (maxSteps:=1000000) (disch:=omega) only [rg,gD,simprocAttr,c81]
  refine ⟨_,ref_text s hs, ?_⟩
  simp (maxSteps:=1000000) (disch:=omega) only [rg,gD,simprocAttr,sV]
  (refine fin_x rfl ?_ ?_<;>simp [pack,lo,loL,V.closed,closedL,mv_closed])
theorem ref23_six (n:Int):PCall Tryz.prog 77 [.int .i64 n] (.bool (decide (0≤n∧n < 281474976710656))):=by
  refine en77 (by simp) (by simp [closedL,V.closed]) ?_
  by_cases c:0≤n
  · simp (maxSteps:=1000000) (disch:=omega) only [rg,gD,simprocAttr,c77,c]
    (refine fin_x rfl ?_ ?_<;>simp [pack,lo,loL,V.closed,closedL,mv_closed,c])
  · simp (maxSteps:=1000000) (disch:=omega) only [rg,gD,simprocAttr,c77,c]
    (refine fin_x rfl ?_ ?_<;>simp [pack,lo,loL,V.closed,closedL,mv_closed,c])
theorem putS_ok {n k:Int}:(putS n k).2=0↔(1≤k∧k≤6∧0≤n∧n < 256 ^ k.toNat):=by
  unfold putS; split
  · simp only; constructor
    · intro h; omega
    · intro h; omega
  · simp only [true_iff]; omega
/-! What was written is read again. -/
def intsB (l:List Int):Str:=(l.map fun x => (putS x 1).1).flatten
def tskB (t:Task):Str:=((((putS t.needs.length 1).1++intsB t.needs)++(putS t.tries 1).1)++(putS t.wait 3).1)++(putS t.lease 3).1
def tsksB (l:List Task):Str:=(l.map tskB).flatten
def dagB (d:Dag):Str:=((textS d.name).1++(putS d.tasks.length 1).1)++tsksB d.tasks
theorem intsB_cons {x:Int} {l:List Int}:intsB (x::l)=(putS x 1).1++intsB l:=rfl
theorem tsksB_cons {t:Task} {l:List Task}:tsksB (t::l)=tskB t++tsksB l:=rfl
theorem intsB_succ {l:List Int} {i:Nat} (h:i < l.length):intsB (l.take (i+1))=intsB (l.take i)++(putS l[i] 1).1:=by
  rw [List.take_succ_eq_append_getElem h,intsB,List.map_append,List.flatten_append]; simp [intsB]
theorem tsksB_succ {l:List Task} {i:Nat} (h:i < l.length):tsksB (l.take (i+1))=tsksB (l.take i)++tskB l[i]:=by
  rw [List.take_succ_eq_append_getElem h,tsksB,List.map_append,List.flatten_append]; simp [tsksB]
theorem putS_len1 (n:Int):(putS n 1).1.length≤1:=by
  unfold putS; split
  · simp
  · simp [beS_len]
theorem putS_len3 (n:Int):(putS n 3).1.length≤3:=by
  unfold putS; split
  · simp
  · simp [beS_len]
theorem intsB_len:∀ (l:List Int),(intsB l).length≤l.length
  | [] => by simp [intsB]
  | x::l => by
    have h1:=putS_len1 x
    have h2:=intsB_len l
    rw [intsB_cons,List.length_append,List.length_cons]; omega
theorem tskB_len (t:Task):(tskB t).length≤t.needs.length+8:=by
  have h1:=putS_len1 t.needs.length
  have h2:=intsB_len t.needs
  have h3:=putS_len1 t.tries
  have h4:=putS_len3 t.wait
  have h5:=putS_len3 t.lease
  simp only [tskB,List.length_append]; omega
theorem tsksB_len {N:Nat}:∀ {l:List Task},(∀ t∈l,t.needs.length≤N)→(tsksB l).length≤l.length*(N+8)
  | [],_ => by simp [tsksB]
  | t::l,h => by
    have h1:=tskB_len t
    have h2:=h t (by simp)
    have h3:=tsksB_len (l:=l) fun x hx => h x (by simp [hx])
    rw [tsksB_cons,List.length_append,List.length_cons,Nat.add_mul]; omega
def tskFit (t:Task):Prop:=(putS t.needs.length 1).2=0∧(∀ x∈t.needs,(putS x 1).2=0)∧(putS t.tries 1).2=0∧(putS t.wait 3).2=0∧(putS t.lease 3).2=0
def dagFit (d:Dag):Prop:=d.name.length≤65535∧(putS d.tasks.length 1).2=0∧∀ t∈d.tasks,tskFit t
theorem right_fit {d:Dag} (h:refRightS d=0):dagFit d∧d.tasks.length≤10∧d.name.length≤16∧1≤d.tasks.length∧∀ t∈d.tasks,t.needs.length≤10:=by
  unfold refRightS at h
  by_cases c0:10 < d.tasks.length
  · rw [if_pos c0] at h; simp at h
  rw [if_neg c0] at h
  by_cases c1:shapedS d=false
  · rw [if_pos c1] at h; simp at h
  simp only [Bool.not_eq_false] at c1
  simp only [shapedS,Bool.and_eq_true,Bool.not_eq_true',decide_eq_false_iff_not,List.all_eq_true] at c1
  obtain ⟨h1,h2⟩:=c1
  have e1:(256:Int) ^ (1:Int).toNat=256:=rfl
  have e3:(256:Int) ^ (3:Int).toNat=16777216:=rfl
  have each:∀ t∈d.tasks,tskFit t∧t.needs.length≤10:=by
    intro t ht
    have h3:=h2 t ht
    simp only [taskOkS,taskNumS,Bool.and_eq_true,decide_eq_true_eq] at h3
    obtain ⟨h4,h5⟩:=h3
    have h6:=rise_range h4 (by omega)
    have h7:t.needs.length≤10:=by have:=h6.2; omega
    refine ⟨⟨putS_ok.2 ?_,fun x hx => putS_ok.2 ?_,putS_ok.2 ?_,putS_ok.2 ?_,putS_ok.2 ?_⟩,h7⟩
    · rw [e1]; omega
    · have:=h6.1 x hx; rw [e1]; omega
    · rw [e1]; omega
    · rw [e3]; omega
    · rw [e3]; omega
  refine ⟨⟨by omega,putS_ok.2 (by rw [e1]; omega),fun t ht => (each t ht).1⟩,by omega,by omega,by omega,fun t ht => (each t ht).2⟩
def zeroD:Dag:=⟨[],[]⟩
def dagPutS (d:Dag):Str×Int:=if refRightS d=0 then (dagB d,0) else ([],refRightS d)
def zeroC:Cmd:=⟨0,[],[],0,0,[],zeroD⟩
def noDag (d:Dag):Prop:=d.name=[]∧d.tasks.length=0
instance (d:Dag):Decidable (noDag d):=by unfold noDag; infer_instance
theorem noDag_eq {d:Dag} (h:noDag d):d=zeroD:=by
  obtain ⟨n,l⟩:=d
  obtain ⟨h1,h2⟩:=h
  simp only at h1 h2
  rw [h1,List.eq_nil_of_length_eq_zero h2]; rfl
def bareP (c:Cmd):Prop :=
  if c.kind=1 then c.key=[]∧c.name=[]∧c.token=0∧c.time=0∧c.text=[]
  else if c.kind=2 then c.token=0∧c.time=0∧c.text=[]∧noDag c.dag
  else if c.kind=4∨c.kind=6 then c.key=[]∧c.name=[]∧c.time=0∧c.text=[]∧noDag c.dag
  else if c.kind=5 then c.key=[]∧c.name=[]∧c.time=0∧noDag c.dag
  else if c.kind=7∨c.kind=9 then c.name=[]∧c.token=0∧c.time=0∧c.text=[]∧noDag c.dag
  else if c.kind=8 then c.key=[]∧c.name=[]∧c.token=0∧c.text=[]∧noDag c.dag
  else c.key=[]∧c.name=[]∧c.token=0∧c.time=0∧c.text=[]∧noDag c.dag
instance (c:Cmd):Decidable (bareP c):=by unfold bareP; infer_instance
def fitP (c:Cmd):Prop:=c.key.length≤255∧c.name.length≤255∧c.text.length≤255∧0≤c.token∧c.token < 281474976710656∧0≤c.time∧c.time < 281474976710656
instance (c:Cmd):Decidable (fitP c):=by unfold fitP; infer_instance
def cmdP (c:Cmd):Prop:=1≤c.kind∧c.kind≤10∧bareP c∧fitP c∧(c.kind=1→refRightS c.dag=0)
instance (c:Cmd):Decidable (cmdP c):=by unfold cmdP; infer_instance
def cmdBody (c:Cmd):Str :=
  if c.kind=1 then dagB c.dag
  else if c.kind=2 then (textS c.key).1++(textS c.name).1
  else if c.kind=4∨c.kind=6 then (putS c.token 6).1
  else if c.kind=5 then (putS c.token 6).1++(textS c.text).1
  else if c.kind=7∨c.kind=9 then (textS c.key).1
  else if c.kind=8 then (putS c.time 6).1
  else []
def cmdB (c:Cmd):Str:=(putS c.kind 1).1++cmdBody c
def cmdPutS (c:Cmd):Str×Int:=if cmdP c then (sealS (cmdB c),0) else ([],1)
theorem fPut1 {n:Int} (h:0≤n∧n < 256):(putS n 1).2=0:=putS_ok.2 ⟨by omega,by omega,h.1,h.2⟩
theorem dag_put1 (H:Hp) (b:Nat) (out:Str) (n k:Int) (hr:out.length≤1000000000) (hn:n≤9223372036854775807) (hb:b < H.n) (hm:H.m b=some (.arr 1 [.str out])) :
    ACall Tryz.prog 122 [.int .i64 n,.int .i64 k,.ptr b 0 0] H [b] (.tup []) [(b,some (.arr 1 [.str (out++(putS n k).1)]))] 0:=by
  refine ena122 (by simp) (by simp [lowL,V.low,hb]) (fun id hid => ?_) (by simp) ?_
  · simp at hid; subst hid
    exact ⟨hb,fun o ho => by rw [hm] at ho; simp at ho; subst ho; rfl⟩
  have q1:only [b] H.m b=some (.arr 1 [.str out]):=by simp [only,hm]
  have hpl:=putS_len n k
  simp (maxSteps:=1000000) (disch:=omega) only [rg,gD,simprocAttr,c122]
  refine ⟨_,code_put n k hn, ?_⟩
  simp (maxSteps:=1000000) (disch:=omega) only [rg,gD,simprocAttr,sV,q1]
  refine ⟨_,code_all .full [out,(putS n k).1] (by simp) (by simp at hr ⊢; omega), ?_⟩
  rw [two_flat]
  simp (maxSteps:=1000000) (disch:=omega) only [rg,gD,simprocAttr,q1]
  exact fin_An (l:=[]) rfl (.inl rfl) (by simp) (fun id => .inr (by by_cases h:id=b<;>simp [appd,upd,h]))
def okInt (n:Int):Prop:=n≤9223372036854775807
def okDagN (d:Dag):Prop:=∀ t∈d.tasks,(∀ x∈t.needs,okInt x)∧okInt t.tries∧okInt t.wait∧okInt t.lease
theorem dag_put (d:Dag) (hd:∀ t∈d.tasks,t.needs.length≤4611686018427387904) (hn:d.tasks.length≤4611686018427387904) (hi:okDagN d):PCall Tryz.prog 91 [dagV d] (sV (dagPutS d)):=by
  refine en91 (by simp) (by simp [closedL,V.closed,dagV_closed]) ?_
  have kr:=dag_right d hd hn
  rw [← right_same] at kr
  unfold dagV tasksV at kr
  simp (maxSteps:=1000000) (disch:=omega) only [rg,gD,simprocAttr,c91,dagV,tasksV]
  refine ⟨_,kr, ?_⟩
  by_cases c0:refRightS d=0
  case neg =>
    simp (maxSteps:=1000000) (disch:=omega) only [rg,gD,simprocAttr,c0]
    (refine fin_x rfl ?_ ?_<;>simp [pack,lo,loL,V.closed,closedL,mv_closed,sV,dagPutS,c0])
  obtain ⟨hfit,h10,h16,h1,hneeds⟩:=right_fit c0
  simp (maxSteps:=1000000) (disch:=omega) only [rg,gD,simprocAttr,c0]
  refine ⟨_,code_text d.name (by omega), ?_⟩
  have tl:=textS_len d.name
  have n1:=putS_len1 d.tasks.length
  simp (maxSteps:=1000000) (disch:=omega) only [rg,gD,simprocAttr,sV]
  refine ⟨_,_,_,_,dag_put1 _ 1 (textS d.name).1 d.tasks.length 1 (by omega) (by omega) (by simp) (by simp (disch:=omega) only [upd_eq,upd_ne,wo_0,wo_1,wo_2]), ?_⟩
  simp (maxSteps:=1000000) (disch:=omega) only [rg,gD,simprocAttr]
  have hD:dagPutS d=(((textS d.name).1++(putS d.tasks.length 1).1)++tsksB d.tasks,0):=by simp [dagPutS,c0,dagB]
  rw [hD]
  generalize hB:(textS d.name).1++(putS d.tasks.length 1).1=B
  have hBl:B.length≤100:=by rw [← hB]; simp; omega
  refine x_it d.tasks.length (fun i σ H => 2≤H.n∧H.m 1=some (.arr 1 [.str (B++tsksB (d.tasks.take i))])∧σ=[(5,.ptr 1 0 0),(7,.fn 122 [] [.ptr 1 0 0]),(30,tasksV d.tasks),(31,.int .i64 d.tasks.length),(32,.int .i64 i)]) ⟨Nat.le_refl 2,(by simp (disch:=omega) only [upd_eq,upd_ne,wo_0,wo_1,wo_2,tsksB,List.take_zero,List.map_nil,List.flatten_nil,List.append_nil]),rfl⟩ ?_
  rintro T i σ ⟨q,m⟩ hi' ⟨hq,e1,rfl⟩ hN hX hR
  simp only at hq e1
  simp (maxSteps:=1000000) (disch:=omega) only [rg,gD,simprocAttr,tasksV]
  refine ⟨fun h => ?_,fun h => ?_⟩
  · have i1:i < d.tasks.length:=by omega
    obtain ⟨g1,g2,g3,g4⟩:=hi _ (List.getElem_mem i1)
    have hnl:=hneeds _ (List.getElem_mem i1)
    have hq1:1≠q:=by omega
    have hsl:=tsksB_len (l:=d.tasks.take i) (N:=10) (fun t ht => hneeds t (List.mem_of_mem_take ht))
    rw [List.length_take] at hsl
    rw [tsksB_succ i1] at hN
    generalize tsksB (d.tasks.take i)=out at *
    have hol:(B++out).length≤1000:=by simp; omega
    simp (maxSteps:=1000000) (disch:=omega) only [rg,gD,simprocAttr,taskV,vI_len]
    generalize d.tasks[i]=t at *
    refine ⟨_,_,_,_,dag_put1 _ 1 (B++out) t.needs.length 1 (by omega) (by omega) (by show 1 < q+1; omega) (by simp (disch:=omega) only [upd_eq,upd_ne,wo_0,wo_1,wo_2,e1]), ?_⟩
    have m1:=putS_len1 t.needs.length
    simp (maxSteps:=1000000) (disch:=omega) only [rg,gD,simprocAttr,vI_len]
    refine x_it t.needs.length (fun j σ H => q+1≤H.n∧H.m q=some (.arr 4 [taskV t])∧H.m 1=some (.arr 1 [.str (((B++out)++(putS t.needs.length 1).1)++intsB (t.needs.take j))])∧σ=[(5,.ptr 1 0 0),(7,.fn 122 [] [.ptr 1 0 0]),(9,.ptr q 0 0),(30,tasksV d.tasks),(31,.int .i64 d.tasks.length),(32,.int .i64 i),(42,.fsl .loose 1 (vI t.needs)),(43,.int .i64 t.needs.length),(44,.int .i64 j)]) ⟨Nat.le_refl _,(by simp (disch:=omega) only [upd_eq,upd_ne,wo_0,wo_1,wo_2,taskV]),(by simp (disch:=omega) only [upd_eq,upd_ne,wo_0,wo_1,wo_2,intsB,List.take_zero,List.map_nil,List.flatten_nil,List.append_nil]),rfl⟩ ?_
    rintro T2 j σ ⟨q2,m2⟩ hj ⟨hq2,f0,f1,rfl⟩ hN2 hX2 hR2
    simp only at hq2 f0 f1
    unfold taskV at f0
    have hil:=intsB_len (t.needs.take j)
    rw [List.length_take] at hil
    have hol2:(((B++out)++(putS t.needs.length 1).1)++intsB (t.needs.take j)).length≤1020:=by rw [List.length_append,List.length_append]; omega
    simp (maxSteps:=1000000) (disch:=omega) only [rg,gD,simprocAttr]
    refine ⟨fun h => ?_,fun h => ?_⟩
    · have j1:j < t.needs.length:=by omega
      rw [intsB_succ j1] at hN2
      generalize intsB (t.needs.take j)=o2 at *
      simp (maxSteps:=1000000) (disch:=omega) only [rg,gD,simprocAttr,vI_get]
      refine ⟨_,_,_,_,dag_put1 _ 1 (((B++out)++(putS t.needs.length 1).1)++o2) t.needs[j] 1 (by omega) (g1 _ (List.getElem_mem j1)) (by show 1 < q2; omega) (by simp (disch:=omega) only [upd_eq,upd_ne,wo_0,wo_1,wo_2,f1]), ?_⟩
      simp (maxSteps:=1000000) (disch:=omega) only [rg,gD,simprocAttr]
      refine hN2 _ _ j1 ?_
      refine ⟨hq2,(by simp (disch:=omega) only [upd_eq,upd_ne,wo_0,wo_1,wo_2,f0,taskV]),(by simp (disch:=omega) only [upd_eq,upd_ne,wo_0,wo_1,wo_2,List.append_assoc]),rfl⟩
    · obtain rfl:j=t.needs.length:=by omega
      rw [List.take_length] at f1 hol2
      refine hX2 _ _ _ ?_
      simp (maxSteps:=1000000) (disch:=omega) only [rg,gD,simprocAttr]
      refine x_frz0 ?_
      have k3:=putS_len1 t.tries
      have k4:=putS_len3 t.wait
      generalize hO:((B++out)++(putS t.needs.length 1).1)++intsB t.needs=O at f1 hol2
      simp (maxSteps:=1000000) (disch:=omega) only [rg,gD,simprocAttr,f0]
      refine ⟨_,_,_,_,dag_put1 _ 1 O t.tries 1 (by omega) g2 (by show 1 < q2; omega) (by simp (disch:=omega) only [upd_eq,upd_ne,wo_0,wo_1,wo_2,f1]), ?_⟩
      simp (maxSteps:=1000000) (disch:=omega) only [rg,gD,simprocAttr,f0]
      refine ⟨_,_,_,_,dag_put1 _ 1 (O++(putS t.tries 1).1) t.wait 3 (by rw [List.length_append]; omega) g3 (by show 1 < q2; omega) (by simp (disch:=omega) only [upd_eq,upd_ne,wo_0,wo_1,wo_2]), ?_⟩
      simp (maxSteps:=1000000) (disch:=omega) only [rg,gD,simprocAttr,f0]
      refine ⟨_,_,_,_,dag_put1 _ 1 ((O++(putS t.tries 1).1)++(putS t.wait 3).1) t.lease 3 (by rw [List.length_append,List.length_append]; omega) g4 (by show 1 < q2; omega) (by simp (disch:=omega) only [upd_eq,upd_ne,wo_0,wo_1,wo_2]), ?_⟩
      simp (maxSteps:=1000000) (disch:=omega) only [rg,gD,simprocAttr]
      refine x_frz0 ?_
      simp (maxSteps:=1000000) (disch:=omega) only [rg,gD,simprocAttr]
      refine hN _ _ i1 ?_
      refine ⟨by show 2≤q2; omega, ?_,rfl⟩
      simp only [upd_eq]
      rw [← hO]
      simp only [tskB,List.append_assoc]
  · obtain rfl:i=d.tasks.length:=by omega
    rw [List.take_length] at e1
    refine hX _ _ _ ?_
    simp (maxSteps:=1000000) (disch:=omega) only [rg,gD,simprocAttr]
    refine x_frz0 ?_
    simp (maxSteps:=1000000) (disch:=omega) only [rg,gD,simprocAttr,e1]
    (refine fin_x rfl ?_ ?_<;>simp [pack,lo,loL,V.closed,closedL,mv_closed,sV])
theorem ref16_number (n k:Int) (hn:n≤9223372036854775807):PCall Tryz.prog 110 [.int .i64 n,.int .i64 k] (.str (putS n k).1):=by
  refine en110 (by simp) (by simp [closedL,V.closed]) ?_
  simp (maxSteps:=1000000) (disch:=omega) only [rg,gD,simprocAttr,c110]
  refine ⟨_,ref_put n k hn, ?_⟩
  simp (maxSteps:=1000000) (disch:=omega) only [rg,gD,simprocAttr,sV]
  (refine fin_x rfl ?_ ?_<;>simp [pack,lo,loL,V.closed,closedL,mv_closed])
theorem ref16_put (d:Dag) (hN:d.name.length≤1000000) (hd:∀ t∈d.tasks,t.needs.length≤100) (hn:d.tasks.length≤100) (hi:okDagN d):PCall Tryz.prog 80 [dagV d] (.str (dagB d)):=by
  refine en80 (by simp) (by simp [closedL,V.closed,dagV_closed]) ?_
  have tl:=textS_len d.name
  have n1:=putS_len1 d.tasks.length
  simp (maxSteps:=1000000) (disch:=omega) only [rg,gD,simprocAttr,c80,dagV,tasksV]
  refine ⟨_,ref_text d.name (by omega), ?_⟩
  simp (maxSteps:=1000000) (disch:=omega) only [rg,gD,simprocAttr,sV]
  refine ⟨_,ref16_number d.tasks.length 1 (by omega), ?_⟩
  simp (maxSteps:=1000000) (disch:=omega) only [rg,gD,simprocAttr]
  refine ⟨by omega, ?_⟩
  have hD:dagB d=((textS d.name).1++(putS d.tasks.length 1).1)++tsksB d.tasks:=rfl
  rw [hD]
  generalize hB:(textS d.name).1++(putS d.tasks.length 1).1=B
  have hBl:B.length≤1000100:=by rw [← hB]; simp; omega
  refine x_it d.tasks.length (fun i σ H => σ=[(5,.str (B++tsksB (d.tasks.take i))),(23,tasksV d.tasks),(24,.int .i64 d.tasks.length),(25,.int .i64 i)]) (by simp [tsksB,tasksV]) ?_
  rintro T i σ ⟨q,m⟩ hi' rfl hN hX hR
  simp (maxSteps:=1000000) (disch:=omega) only [rg,gD,simprocAttr,tasksV]
  refine ⟨fun h => ?_,fun h => ?_⟩
  · have i1:i < d.tasks.length:=by omega
    obtain ⟨g1,g2,g3,g4⟩:=hi _ (List.getElem_mem i1)
    have hnl:=hd _ (List.getElem_mem i1)
    have hsl:=tsksB_len (l:=d.tasks.take i) (N:=100) (fun t ht => hd t (List.mem_of_mem_take ht))
    rw [List.length_take] at hsl
    rw [tsksB_succ i1] at hN
    generalize tsksB (d.tasks.take i)=out at *
    have hol:(B++out).length≤1020000:=by simp; omega
    simp (maxSteps:=1000000) (disch:=omega) only [rg,gD,simprocAttr,taskV,vI_len]
    generalize d.tasks[i]=t at *
    have m1:=putS_len1 t.needs.length
    refine ⟨_,ref16_number t.needs.length 1 (by omega), ?_⟩
    simp (maxSteps:=1000000) (disch:=omega) only [rg,gD,simprocAttr,vI_len]
    refine ⟨by omega, ?_⟩
    refine x_it t.needs.length (fun j σ H => H.m q=some (.arr 4 [taskV t])∧σ=[(5,.str (((B++out)++(putS t.needs.length 1).1)++intsB (t.needs.take j))),(7,.ptr q 0 0),(23,tasksV d.tasks),(24,.int .i64 d.tasks.length),(25,.int .i64 i),(36,.fsl .loose 1 (vI t.needs)),(37,.int .i64 t.needs.length),(38,.int .i64 j)]) ⟨(by simp (disch:=omega) only [upd_eq,upd_ne,wo_0,wo_1,wo_2,taskV]),by simp [intsB,tasksV]⟩ ?_
    rintro T2 j σ ⟨q2,m2⟩ hj ⟨f0,rfl⟩ hN2 hX2 hR2
    simp only at f0
    unfold taskV at f0
    have hil:=intsB_len (t.needs.take j)
    rw [List.length_take] at hil
    have hol2:(((B++out)++(putS t.needs.length 1).1)++intsB (t.needs.take j)).length≤1030000:=by rw [List.length_append,List.length_append]; omega
    simp (maxSteps:=1000000) (disch:=omega) only [rg,gD,simprocAttr]
    refine ⟨fun h => ?_,fun h => ?_⟩
    · have j1:j < t.needs.length:=by omega
      have p1:=putS_len1 t.needs[j]
      rw [intsB_succ j1] at hN2
      generalize intsB (t.needs.take j)=o2 at *
      simp (maxSteps:=1000000) (disch:=omega) only [rg,gD,simprocAttr,vI_get]
      refine ⟨_,ref16_number t.needs[j] 1 (g1 _ (List.getElem_mem j1)), ?_⟩
      simp (maxSteps:=1000000) (disch:=omega) only [rg,gD,simprocAttr]
      refine ⟨by omega, ?_⟩
      refine hN2 _ _ j1 ?_
      refine ⟨(by simp (disch:=omega) only [upd_eq,upd_ne,wo_0,wo_1,wo_2,f0,taskV]), ?_⟩
      rw [List.append_assoc]; rfl
    · obtain rfl:j=t.needs.length:=by omega
      rw [List.take_length] at hol2 ⊢
      refine hX2 _ _ _ ?_
      simp (maxSteps:=1000000) (disch:=omega) only [rg,gD,simprocAttr]
      refine x_frz0 ?_
      have k3:=putS_len1 t.tries
      have k4:=putS_len3 t.wait
      have k5:=putS_len3 t.lease
      generalize hO:((B++out)++(putS t.needs.length 1).1)++intsB t.needs=O at hol2
      simp (maxSteps:=1000000) (disch:=omega) only [rg,gD,simprocAttr,f0]
      refine ⟨_,ref16_number t.tries 1 g2, ?_⟩
      simp (maxSteps:=1000000) (disch:=omega) only [rg,gD,simprocAttr,f0]
      refine ⟨by omega,_,ref16_number t.wait 3 g3, ?_⟩
      simp (maxSteps:=1000000) (disch:=omega) only [rg,gD,simprocAttr,f0,List.length_append]
      refine ⟨by omega,_,ref16_number t.lease 3 g4, ?_⟩
      simp (maxSteps:=1000000) (disch:=omega) only [rg,gD,simprocAttr,f0,List.length_append]
      refine ⟨by omega, ?_⟩
      refine x_frz0 ?_
      simp (maxSteps:=1000000) (disch:=omega) only [rg,gD,simprocAttr]
      refine hN _ _ i1 ?_
      rw [← hO]
      simp only [tskB,List.append_assoc,tasksV]
      rfl
  · obtain rfl:i=d.tasks.length:=by omega
    rw [List.take_length]
    refine hX _ _ _ ?_
    simp (maxSteps:=1000000) (disch:=omega) only [rg,gD,simprocAttr]
    refine x_frz0 ?_
    simp (maxSteps:=1000000) (disch:=omega) only [rg,gD,simprocAttr]
    (refine fin_x rfl ?_ ?_<;>simp [pack,lo,loL,V.closed,closedL,mv_closed])
def Gro (lo n:Nat) (m:Hm) (sz:Nat) (v:V) (l:List V):Prop :=
  (∃ st,(st≠.loose∧st≠.nn)∧v=.fsl st sz []∧l=[])∨∃ id,lo≤id∧id < n∧v=.sl id 0 l.length∧m id=some (.arr sz l)
theorem Gro.nil {lo n:Nat} {m:Hm} {sz:Nat}:Gro lo n m sz (.fsl .nil sz []) []:=.inl ⟨.nil,by decide,rfl,rfl⟩
theorem Gro.full {lo n:Nat} {m:Hm} {sz:Nat}:Gro lo n m sz (.fsl .full sz []) []:=.inl ⟨.full,by decide,rfl,rfl⟩
theorem Gro.keep {lo n n':Nat} {m m':Hm} {sz:Nat} {v:V} {l:List V} (h:Gro lo n m sz v l) (hn:n≤n') (hm:∀ id,lo≤id→id < n→m' id=m id):Gro lo n' m' sz v l:=by
  rcases h with h | ⟨id,h1,h2,h3,h4⟩
  · exact .inl h
  · exact .inr ⟨id,h1,by omega,h3,by rw [hm id h1 h2]; exact h4⟩
theorem Gro.down {lo lo' n:Nat} {m:Hm} {sz:Nat} {v:V} {l:List V} (h:Gro lo n m sz v l) (hl:lo'≤lo):Gro lo' n m sz v l:=by
  rcases h with h | ⟨id,h1,h2,h3,h4⟩
  · exact .inl h
  · exact .inr ⟨id,by omega,h2,h3,h4⟩
theorem Gro.rd {lo n:Nat} {m:Hm} {sz:Nat} {v:V} {l:List V} (h:Gro lo n m sz v l):rd m v=some (sz,l):=by
  rcases h with ⟨st,_,rfl,rfl⟩ | ⟨id,h1,h2,rfl,h3⟩
  · rfl
  · simp [Ev.rd,h3]
theorem Gro.cell {lo n:Nat} {m:Hm} {sz:Nat} {v:V} {l:List V} (h:Gro lo n m sz v l):v.cell=true:=by
  rcases h with ⟨st,_,rfl,rfl⟩ | ⟨id,h1,h2,rfl,h3⟩<;>rfl
theorem app_gro {lo:Nat} {H:Hp} {sz bt:Nat} {v y:V} {l ys:List V} {K:KI} (h:Gro lo H.n H.m sz v l) (hlo:lo≤H.n) (hy:Ev.rd H.m y=some (sz,ys)) (hne:ys≠[]) (hl:(l.length+ys.length)*bt≤140737488355328)
    (k:∀ v' fp ds,Gro lo (H.n+1) (appd ds H.m) sz v' (l++ys)→(∀ id,id < lo→appd ds H.m id=H.m id)→(∀ id,id < H.n→(∀ o n,v≠.sl id o n)→appd ds H.m id=H.m id)→K v' fp ds 1):fin (appO H sz bt v y) K:=by
  have e:(l++ys).length=l.length+ys.length:=List.length_append
  unfold appO
  rw [rdA_of hy]
  rcases h with ⟨st,h0,rfl,rfl⟩ | ⟨id,h1,h1',rfl,h2⟩
  · cases ys with
    | nil => exact absurd rfl hne
    | cons a ys =>
      refine ⟨⟨rfl,rfl,h0,by simpa using hl⟩,k _ _ _ (.inr ⟨H.n,hlo,by simp,by simp,by simp [appd,upd]⟩) (fun id hid => ?_) fun id hid _ => ?_⟩
      · have:id≠H.n:=by omega
        simp [appd,upd,this]
      · have:id≠H.n:=by omega
        simp [appd,upd,this]
  · simp only [h2]
    refine ⟨⟨trivial,trivial,trivial,Nat.le_refl _,hl⟩,k _ _ _ (.inr ⟨H.n,hlo,by simp,by simp,by simp [appd,upd]⟩) (fun i hid => ?_) fun i hid hv => ?_⟩
    · have h3:i≠H.n:=by omega
      have h4:i≠id:=by omega
      simp [appd,upd,h3,h4]
    · have h3:i≠H.n:=by omega
      have h4:i≠id:=fun e => hv 0 l.length (by rw [e])
      simp [appd,upd,h3,h4]
theorem Gro.frz {lo n:Nat} {m:Hm} {sz:Nat} {v:V} {l:List V} (h:Gro lo n m sz v l) (hc:closedL l=true):∃ fz st,(∀ id∈fz,lo≤id∧id < n)∧(∀ k,snap (k+1) (only fz m) v=some (.fsl st sz l))∧frzV fz m v=.fsl st sz l:=by
  have fin:∀ {fz st},(∀ k,snap (k+1) (only fz m) v=some (.fsl st sz l))→frzV fz m v=.fsl st sz l:=fun hk => by simp only [frzV,hk 3]
  rcases h with ⟨st,h0,rfl,rfl⟩ | ⟨id,h1,h1',rfl,h2⟩
  · have:=fun k => snap_cl (n:=k+1) (m:=only [] m) (v:=.fsl st sz []) rfl
    exact ⟨[],st,by simp,this,fin this⟩
  · have:=fun k => snap_sl (n:=k) (m:=only [id] m) (id:=id) (sz:=sz) (l:=l) (by simp [only,h2]) hc rfl
    exact ⟨[id],.loose,by simp; omega,this,fin this⟩
theorem mapO_app {f:V→Option V} {a b a' b':List V} (ha:mapO f a=some a') (hb:mapO f b=some b'):mapO f (a++b)=some (a'++b'):=by
  induction a generalizing a' with
  | nil => simp [mapO] at ha; subst ha; simpa using hb
  | cons x a ih =>
    simp only [mapO] at ha
    split at ha
    · rename_i u hu
      split at ha
      · rename_i us hus
        simp at ha; subst ha
        simp [mapO,hu,ih hus]
      · cases ha
    · cases ha
theorem frzV_mid {fz:List Nat} {m:Hm} {pre post:List V} {v u:V} (h:∀ k,snap (k+1) (only fz m) v=some u) (h1:closedL pre=true) (h2:closedL post=true):frzV fz m (.agg (pre++v::post))=.agg (pre++u::post):=by
  have hp:mapO (snap 3 (only fz m)) (pre++v::post)=some (pre++u::post):=mapO_app (mapO_closed h1) (by simp [mapO,h 2,mapO_closed h2])
  simp only [frzV,snap_agg hp]
theorem frl_get {fz ids:List Nat} {m:Hm} {id sz:Nat} {l:List V} (h:m id=some (.arr sz l)) (hn:id∉fz) (hi:id∉ids):loH ids (frzH fz m) id=some (.arr sz (l.map (frzV fz m))):=by
  simp [loH,hi,frzH,hn,h,frzO]
theorem map_frz {fz:List Nat} {m:Hm} {l:List V} (h:closedL l=true):l.map (frzV fz m)=l:=by
  rw [closedL_iff] at h
  exact (List.map_congr_left fun v hv => frz_c (h v hv)).trans (List.map_id _)
theorem frl_cl {fz ids:List Nat} {m:Hm} {id sz:Nat} {l:List V} (h:m id=some (.arr sz l)) (hc:closedL l=true) (hn:id∉fz) (hi:id∉ids):loH ids (frzH fz m) id=some (.arr sz l):=by
  rw [frl_get h hn hi,map_frz hc]
theorem kinds (k:Int):k=1∨k=2∨k=4∨k=6∨k=5∨k=7∨k=9∨k=8∨(¬ k=1∧¬ k=2∧¬ k=4∧¬ k=6∧¬ k=5∧¬ k=7∧¬ k=9∧¬ k=8):=by omega
def bareC (c:Cmd):Cmd :=
  if c.kind=1 then ⟨c.kind,[],[],0,0,[],c.dag⟩
  else if c.kind=2 then ⟨c.kind,c.key,c.name,0,0,[],zeroD⟩
  else if c.kind=4∨c.kind=6 then ⟨c.kind,[],[],c.token,0,[],zeroD⟩
  else if c.kind=5 then ⟨c.kind,[],[],c.token,0,c.text,zeroD⟩
  else if c.kind=7∨c.kind=9 then ⟨c.kind,c.key,[],0,0,[],zeroD⟩
  else if c.kind=8 then ⟨c.kind,[],[],0,c.time,[],zeroD⟩
  else ⟨c.kind,[],[],0,0,[],zeroD⟩
theorem frame_bare (c:Cmd):PCall Tryz.prog 119 [cmdV c] (cmdV (bareC c)):=by
  refine en119 (by simp) (by simp [closedL,V.closed,cmdV_closed]) ?_
  rcases kinds c.kind with k | k | k | k | k | k | k | k | ⟨k1,k2,k4,k6,k5,k7,k9,k8⟩
  case inr.inr.inr.inr.inr.inr.inr.inr =>
    simp (maxSteps:=1000000) (disch:=omega) only [rg,gD,simprocAttr,c119,cmdV,tasksV,k1,k2,k4,k6,k5,k7,k9,k8]
    (refine fin_x rfl ?_ ?_<;>simp [pack,lo,loL,V.closed,closedL,mv_closed,cmdV,bareC,k1,k2,k4,k6,k5,k7,k9,k8,tasksV,mv_closed taskV_closed,mv_lo taskV_lo,zeroD,mv])
  case inl =>
    simp (maxSteps:=1000000) (disch:=omega) only [rg,gD,simprocAttr,c119,cmdV,tasksV,k]
    (refine fin_x rfl ?_ ?_<;>simp [pack,lo,loL,V.closed,closedL,mv_closed,cmdV,bareC,k,tasksV,mv_closed taskV_closed,mv_lo taskV_lo])
  all_goals
    simp (maxSteps:=1000000) (disch:=omega) only [rg,gD,simprocAttr,c119,cmdV,tasksV,k]
    first
      | (refine fin_x rfl ?_ ?_<;>simp [pack,lo,loL,V.closed,closedL,mv_closed,cmdV,bareC,k,tasksV,mv_closed taskV_closed,mv_lo taskV_lo,zeroD,mv])
      | (refine ⟨by simp [compat,disj,nthL], ?_⟩; (refine fin_x rfl ?_ ?_<;>simp [pack,lo,loL,V.closed,closedL,mv_closed,cmdV,bareC,k,tasksV,mv_closed taskV_closed,mv_lo taskV_lo,zeroD,mv]))
def sameF (b c:Cmd):Prop:=b.key=c.key∧b.name=c.name∧b.token=c.token∧b.time=c.time∧b.text=c.text∧b.dag.name=c.dag.name∧b.dag.tasks.length=c.dag.tasks.length
instance (b c:Cmd):Decidable (sameF b c):=by unfold sameF; infer_instance
theorem sameF_bare (c:Cmd):sameF (bareC c) c↔bareP c:=by
  have e:∀ {α:Type} {a:List α},([]=a)=(a=[]):=fun {α} {a} => propext eq_comm
  have e0:∀ {a:Int},((0:Int)=a)=(a=0):=fun {a} => propext eq_comm
  have e1:∀ {a:Nat},((0:Nat)=a)=(a=0):=fun {a} => propext eq_comm
  unfold sameF bareC bareP
  split
  · simp [e,e0]
  split
  · simp [e,e0,e1,noDag,zeroD]
  split
  · simp [e,e0,e1,noDag,zeroD]
  split
  · simp [e,e0,e1,noDag,zeroD]
  split
  · simp [e,e0,e1,noDag,zeroD]
  split
  · simp [e,e0,e1,noDag,zeroD]
  · simp [e,e0,e1,noDag,zeroD]
theorem frame_clean (c:Cmd):PCall Tryz.prog 89 [cmdV c] (.bool (decide (bareP c))):=by
  refine en89 (by simp) (by simp [closedL,V.closed,cmdV_closed]) ?_
  have kb:=frame_bare c
  have hs:=sameF_bare c
  generalize bareC c=b at kb hs
  have no:¬ sameF b c→decide (bareP c)=false:=fun h => decide_eq_false (fun h' => h (hs.2 h'))
  unfold cmdV tasksV at kb
  simp (maxSteps:=1000000) (disch:=omega) only [rg,gD,simprocAttr,c89,cmdV,tasksV]
  refine ⟨_,kb, ?_⟩
  by_cases e1:b.key=c.key
  case neg =>
    simp (maxSteps:=1000000) (disch:=omega) only [rg,gD,simprocAttr,e1]
    (refine fin_x rfl ?_ ?_<;>simp [pack,lo,loL,V.closed,closedL,mv_closed,no (by simp [sameF,e1])])
  by_cases e2:b.name=c.name
  case neg =>
    simp (maxSteps:=1000000) (disch:=omega) only [rg,gD,simprocAttr,e1,e2]
    (refine fin_x rfl ?_ ?_<;>simp [pack,lo,loL,V.closed,closedL,mv_closed,no (by simp [sameF,e2])])
  by_cases e3:b.token=c.token
  case neg =>
    simp (maxSteps:=1000000) (disch:=omega) only [rg,gD,simprocAttr,e1,e2,e3]
    (refine fin_x rfl ?_ ?_<;>simp [pack,lo,loL,V.closed,closedL,mv_closed,no (by simp [sameF,e3])])
  by_cases e4:b.time=c.time
  case neg =>
    simp (maxSteps:=1000000) (disch:=omega) only [rg,gD,simprocAttr,e1,e2,e3,e4]
    (refine fin_x rfl ?_ ?_<;>simp [pack,lo,loL,V.closed,closedL,mv_closed,no (by simp [sameF,e4])])
  by_cases e5:b.text=c.text
  case neg =>
    simp (maxSteps:=1000000) (disch:=omega) only [rg,gD,simprocAttr,e1,e2,e3,e4,e5]
    (refine fin_x rfl ?_ ?_<;>simp [pack,lo,loL,V.closed,closedL,mv_closed,no (by simp [sameF,e5])])
  by_cases e6:b.dag.name=c.dag.name
  case neg =>
    simp (maxSteps:=1000000) (disch:=omega) only [rg,gD,simprocAttr,e1,e2,e3,e4,e5,e6]
    (refine fin_x rfl ?_ ?_<;>simp [pack,lo,loL,V.closed,closedL,mv_closed,no (by simp [sameF,e6])])
  by_cases e7:b.dag.tasks.length=c.dag.tasks.length
  case neg =>
    simp (maxSteps:=1000000) (disch:=omega) only [rg,gD,simprocAttr,e1,e2,e3,e4,e5,e6,show ¬ (b.dag.tasks.length:Int)=c.dag.tasks.length by omega]
    (refine fin_x rfl ?_ ?_<;>simp [pack,lo,loL,V.closed,closedL,mv_closed,no (by simp [sameF,e7])])
  simp (maxSteps:=1000000) (disch:=omega) only [rg,gD,simprocAttr,e1,e2,e3,e4,e5,e6,e7]
  (refine fin_x rfl ?_ ?_<;>simp [pack,lo,loL,V.closed,closedL,mv_closed,decide_eq_true (hs.1 ⟨e1,e2,e3,e4,e5,e6,e7⟩)])
/-! The writer,in few words. -/
theorem wTxt_eq (r:Str×Bool) (t:Str):wTxt r t=(r.1++(textS t).1,r.2 || decide (255 < t.length)):=by
  unfold wTxt textS
  by_cases h:65535 < t.length
  · simp [h,show 255 < t.length by omega]
  · simp [h]
theorem wNum_6 (r:Str×Bool) (n:Int):wNum r n 6=(r.1++(putS n 6).1,r.2 || !decide (0≤n∧n < 281474976710656)):=by
  unfold wNum
  have e:(256:Int) ^ (6:Int).toNat=281474976710656:=rfl
  have:decide ((putS n 6).2=0)=decide (0≤n∧n < 281474976710656):=by
    rw [decide_eq_decide,putS_ok,e]; omega
  rw [this]
theorem wNum_1 (n:Int) (h:0≤n∧n < 256):wNum ([],false) n 1=((putS n 1).1,false):=by
  unfold wNum; rw [fPut1 h]; simp
def okCmdI (c:Cmd):Prop:=c.token≤9223372036854775807∧c.time≤9223372036854775807
def okCmd (c:Cmd):Prop:=c.key.length≤140737488355328∧c.name.length≤140737488355328∧c.text.length≤140737488355328∧c.dag.tasks.length≤4611686018427387904∧(∀ t∈c.dag.tasks,t.needs.length≤4611686018427387904)∧okDagN c.dag∧okCmdI c
theorem putS_len6 (n:Int):(putS n 6).1.length≤6:=putS_len n 6
theorem frame_put (c:Cmd) (hc:okCmd c):PCall Tryz.prog 62 [cmdV c] (sV (cmdPutS c)):=by
  refine en62 (by simp) (by simp [closedL,V.closed,cmdV_closed]) ?_
  obtain ⟨o1,o2,o3,o4,o5,o6,o7,o8⟩:=hc
  have kc:=frame_clean c
  have no:¬ cmdP c→cmdPutS c=([],1):=fun h => by rw [cmdPutS,if_neg h]
  unfold cmdV tasksV at kc
  by_cases a1:c.kind < 1
  · simp (maxSteps:=1000000) (disch:=omega) only [rg,gD,simprocAttr,c62,cmdV,tasksV,a1]
    (refine fin_x rfl ?_ ?_<;>simp [pack,lo,loL,V.closed,closedL,mv_closed,sV,no (fun h => by have:=h.1; omega)])
  by_cases a2:10 < c.kind
  · simp (maxSteps:=1000000) (disch:=omega) only [rg,gD,simprocAttr,c62,cmdV,tasksV,a1,a2]
    (refine fin_x rfl ?_ ?_<;>simp [pack,lo,loL,V.closed,closedL,mv_closed,sV,no (fun h => by have:=h.2.1; omega)])
  simp (maxSteps:=1000000) (disch:=omega) only [rg,gD,simprocAttr,c62,cmdV,tasksV,a1,a2]
  refine ⟨_,kc, ?_⟩
  by_cases hb:bareP c
  case neg =>
    rw [decide_eq_false hb]
    simp (maxSteps:=1000000) (disch:=omega) only [rg,gD,simprocAttr]
    (refine fin_x rfl ?_ ?_<;>simp [pack,lo,loL,V.closed,closedL,mv_closed,sV,no (fun h => hb h.2.2.1)])
  rw [decide_eq_true hb]
  have hw1:=wNum_1 c.kind (by omega)
  have hk1:=putS_len1 c.kind
  have tk:=textS_len2 c.key
  have tn:=textS_len2 c.name
  have tt:=textS_len2 c.text
  have p6:=putS_len6 c.token
  have q6:=putS_len6 c.time
  have yes:cmdP c→cmdPutS c=(sealS ((putS c.kind 1).1++cmdBody c),0):=fun h => by rw [cmdPutS,if_pos h]; rfl
  simp (maxSteps:=1000000) (disch:=omega) only [rg,gD,simprocAttr]
  refine ⟨_,_,_,_,w_num _ 1 ([],false) c.kind 1 (by simp) (by omega) (by simp) (by simp (disch:=omega) only [upd_eq,upd_ne,wo_0,wo_1,wo_2,wrV]), ?_⟩
  rw [hw1]
  simp (maxSteps:=1000000) (disch:=omega) only [rg,gD,simprocAttr]
  generalize hB:(putS c.kind 1).1=B at hk1 yes
  rcases kinds c.kind with k | k | k | k | k | k | k | k | ⟨k1,k2,k4,k6,k5,k7,k9,k8⟩
  · -- a graph
    have kd:=dag_put c.dag o5 o4 o6
    unfold dagV tasksV at kd
    simp (maxSteps:=1000000) (disch:=omega) only [rg,gD,simprocAttr,k]
    refine ⟨_,kd, ?_⟩
    by_cases hr:refRightS c.dag=0
    · have hdl:=right_fit hr
      have hl:(dagB c.dag).length≤1000:=by
        have h1:=tsksB_len (l:=c.dag.tasks) (N:=10) hdl.2.2.2.2
        have h2:=textS_len c.dag.name
        have h3:=putS_len1 c.dag.tasks.length
        simp only [dagB,List.length_append]; omega
      have e:dagPutS c.dag=(dagB c.dag,0):=by simp [dagPutS,hr]
      rw [e]
      simp (maxSteps:=1000000) (disch:=omega) only [rg,gD,simprocAttr,sV,wrV]
      refine ⟨_,code_all .full [B,dagB c.dag] (by simp) (by simp; omega), ?_⟩
      rw [two_flat]
      simp (maxSteps:=1000000) (disch:=omega) only [rg,gD,simprocAttr,wrV]
      try refine ⟨by simp [compat,disj,nthL], ?_⟩
      refine ⟨_,_,_,_,w_end _ 1 (B++dagB c.dag,false) (by simp only [List.length_append]; omega) (by simp) (by simp (disch:=omega) only [upd_eq,upd_ne,wo_0,wo_1,wo_2,wrV]), ?_⟩
      simp (maxSteps:=1000000) (disch:=omega) only [rg,gD,simprocAttr,sV]
      have hP:cmdP c:=by
        refine ⟨by omega,by omega,hb, ?_,fun _ => hr⟩
        simp only [bareP,k,if_true] at hb
        obtain ⟨b1,b2,b3,b4,b5⟩:=hb
        simp [fitP,b1,b2,b3,b4,b5]
      (refine fin_x rfl ?_ ?_<;>simp [pack,lo,loL,V.closed,closedL,mv_closed,sV,yes hP,cmdBody,k,wEnd])
    · have e:dagPutS c.dag=([],refRightS c.dag):=by simp [dagPutS,hr]
      rw [e]
      simp (maxSteps:=1000000) (disch:=omega) only [rg,gD,simprocAttr,sV,wrV,hr]
      refine ⟨_,code_all .full [B,[]] (by simp) (by simp; omega), ?_⟩
      rw [two_flat]
      simp (maxSteps:=1000000) (disch:=omega) only [rg,gD,simprocAttr,wrV,hr]
      try refine ⟨by simp [compat,disj,nthL], ?_⟩
      refine ⟨_,_,_,_,w_end _ 1 (B,true) (by simp only; omega) (by simp) (by simp (disch:=omega) only [upd_eq,upd_ne,wo_0,wo_1,wo_2,wrV]), ?_⟩
      simp (maxSteps:=1000000) (disch:=omega) only [rg,gD,simprocAttr,sV]
      (refine fin_x rfl ?_ ?_<;>simp [pack,lo,loL,V.closed,closedL,mv_closed,sV,no (fun h => hr (h.2.2.2.2 k)),wEnd])
  · -- a start
    simp (maxSteps:=1000000) (disch:=omega) only [rg,gD,simprocAttr,k]
    refine ⟨_,_,_,_,w_text _ 1 (B,false) c.key (by simp only; omega) (by omega) (by simp) (by simp (disch:=omega) only [upd_eq,upd_ne,wo_0,wo_1,wo_2]), ?_⟩
    rw [wTxt_eq]
    simp (maxSteps:=1000000) (disch:=omega) only [rg,gD,simprocAttr]
    refine ⟨_,_,_,_,w_text _ 1 (B++(textS c.key).1,false || decide (255 < c.key.length)) c.name (by simp only [List.length_append]; omega) (by omega) (by simp) (by simp (disch:=omega) only [upd_eq,upd_ne,wo_0,wo_1,wo_2]), ?_⟩
    rw [wTxt_eq]
    simp (maxSteps:=1000000) (disch:=omega) only [rg,gD,simprocAttr]
    refine ⟨_,_,_,_,w_end _ 1 ((B++(textS c.key).1)++(textS c.name).1,(false || decide (255 < c.key.length)) || decide (255 < c.name.length)) (by simp only [List.length_append]; omega) (by simp) (by simp (disch:=omega) only [upd_eq,upd_ne,wo_0,wo_1,wo_2]), ?_⟩
    simp (maxSteps:=1000000) (disch:=omega) only [rg,gD,simprocAttr,sV]
    simp only [bareP,k,show ¬ (2:Int)=1 by omega,if_false,if_true] at hb
    by_cases hP:c.key.length≤255∧c.name.length≤255
    · have:cmdP c:=by
        refine ⟨by omega,by omega,by simpa [bareP,k] using hb, ?_,fun h => by omega⟩
        obtain ⟨b1,b2,b3,b4⟩:=hb
        simp [fitP,b1,b2,b3]; omega
      (refine fin_x rfl ?_ ?_<;>simp [pack,lo,loL,V.closed,closedL,mv_closed,sV,yes this,cmdBody,k,wEnd,show ¬ 255 < c.key.length by omega,show ¬ 255 < c.name.length by omega])
    · have:¬ cmdP c:=fun h => hP ⟨h.2.2.2.1.1,h.2.2.2.1.2.1⟩
      have e:(decide (255 < c.key.length) || decide (255 < c.name.length))=true:=by simp; omega
      (refine fin_x rfl ?_ ?_<;>simp [pack,lo,loL,V.closed,closedL,mv_closed,sV,no this,wEnd,e])
  · simp (maxSteps:=1000000) (disch:=omega) only [rg,gD,simprocAttr,k]
    refine ⟨_,_,_,_,w_num _ 1 (B,false) c.token 6 (by simp only; omega) o7 (by simp) (by simp (disch:=omega) only [upd_eq,upd_ne,wo_0,wo_1,wo_2]), ?_⟩
    rw [wNum_6]
    simp (maxSteps:=1000000) (disch:=omega) only [rg,gD,simprocAttr]
    refine ⟨_,_,_,_,w_end _ 1 (B++(putS c.token 6).1,false || !decide (0≤c.token∧c.token < 281474976710656)) (by simp only [List.length_append]; omega) (by simp) (by simp (disch:=omega) only [upd_eq,upd_ne,wo_0,wo_1,wo_2]), ?_⟩
    simp (maxSteps:=1000000) (disch:=omega) only [rg,gD,simprocAttr,sV]
    by_cases hP:0≤c.token∧c.token < 281474976710656
    · have:cmdP c:=by
        refine ⟨by omega,by omega,hb, ?_,fun h => by omega⟩
        simp [bareP,k] at hb
        obtain ⟨b1,b2,b3,b4,_⟩:=hb
        simp [fitP,b1,b2,b3,b4,hP]
      (refine fin_x rfl ?_ ?_<;>simp [pack,lo,loL,V.closed,closedL,mv_closed,sV,yes this,cmdBody,k,wEnd,hP])
    · have:¬ cmdP c:=fun h => hP ⟨h.2.2.2.1.2.2.2.1,h.2.2.2.1.2.2.2.2.1⟩
      (refine fin_x rfl ?_ ?_<;>simp [pack,lo,loL,V.closed,closedL,mv_closed,sV,no this,wEnd,hP])
  · simp (maxSteps:=1000000) (disch:=omega) only [rg,gD,simprocAttr,k]
    refine ⟨_,_,_,_,w_num _ 1 (B,false) c.token 6 (by simp only; omega) o7 (by simp) (by simp (disch:=omega) only [upd_eq,upd_ne,wo_0,wo_1,wo_2]), ?_⟩
    rw [wNum_6]
    simp (maxSteps:=1000000) (disch:=omega) only [rg,gD,simprocAttr]
    refine ⟨_,_,_,_,w_end _ 1 (B++(putS c.token 6).1,false || !decide (0≤c.token∧c.token < 281474976710656)) (by simp only [List.length_append]; omega) (by simp) (by simp (disch:=omega) only [upd_eq,upd_ne,wo_0,wo_1,wo_2]), ?_⟩
    simp (maxSteps:=1000000) (disch:=omega) only [rg,gD,simprocAttr,sV]
    by_cases hP:0≤c.token∧c.token < 281474976710656
    · have:cmdP c:=by
        refine ⟨by omega,by omega,hb, ?_,fun h => by omega⟩
        simp [bareP,k] at hb
        obtain ⟨b1,b2,b3,b4,_⟩:=hb
        simp [fitP,b1,b2,b3,b4,hP]
      (refine fin_x rfl ?_ ?_<;>simp [pack,lo,loL,V.closed,closedL,mv_closed,sV,yes this,cmdBody,k,wEnd,hP])
    · have:¬ cmdP c:=fun h => hP ⟨h.2.2.2.1.2.2.2.1,h.2.2.2.1.2.2.2.2.1⟩
      (refine fin_x rfl ?_ ?_<;>simp [pack,lo,loL,V.closed,closedL,mv_closed,sV,no this,wEnd,hP])
  · simp (maxSteps:=1000000) (disch:=omega) only [rg,gD,simprocAttr,k]
    refine ⟨_,_,_,_,w_num _ 1 (B,false) c.token 6 (by simp only; omega) o7 (by simp) (by simp (disch:=omega) only [upd_eq,upd_ne,wo_0,wo_1,wo_2]), ?_⟩
    rw [wNum_6]
    simp (maxSteps:=1000000) (disch:=omega) only [rg,gD,simprocAttr]
    refine ⟨_,_,_,_,w_text _ 1 (B++(putS c.token 6).1,false || !decide (0≤c.token∧c.token < 281474976710656)) c.text (by simp only [List.length_append]; omega) (by omega) (by simp) (by simp (disch:=omega) only [upd_eq,upd_ne,wo_0,wo_1,wo_2]), ?_⟩
    rw [wTxt_eq]
    simp (maxSteps:=1000000) (disch:=omega) only [rg,gD,simprocAttr]
    refine ⟨_,_,_,_,w_end _ 1 ((B++(putS c.token 6).1)++(textS c.text).1,(false || !decide (0≤c.token∧c.token < 281474976710656)) || decide (255 < c.text.length)) (by simp only [List.length_append]; omega) (by simp) (by simp (disch:=omega) only [upd_eq,upd_ne,wo_0,wo_1,wo_2]), ?_⟩
    simp (maxSteps:=1000000) (disch:=omega) only [rg,gD,simprocAttr,sV]
    by_cases hP:0≤c.token∧c.token < 281474976710656
    · by_cases hT:c.text.length≤255
      · have:cmdP c:=by
          refine ⟨by omega,by omega,hb, ?_,fun h => by omega⟩
          simp [bareP,k] at hb
          obtain ⟨b1,b2,b3,_⟩:=hb
          simp [fitP,b1,b2,b3,hP,hT]
        (refine fin_x rfl ?_ ?_<;>simp [pack,lo,loL,V.closed,closedL,mv_closed,sV,yes this,cmdBody,k,wEnd,hP,show ¬ 255 < c.text.length by omega])
      · have:¬ cmdP c:=fun h => hT h.2.2.2.1.2.2.1
        (refine fin_x rfl ?_ ?_<;>simp [pack,lo,loL,V.closed,closedL,mv_closed,sV,no this,wEnd,hP,show 255 < c.text.length by omega])
    · have:¬ cmdP c:=fun h => hP ⟨h.2.2.2.1.2.2.2.1,h.2.2.2.1.2.2.2.2.1⟩
      (refine fin_x rfl ?_ ?_<;>simp [pack,lo,loL,V.closed,closedL,mv_closed,sV,no this,wEnd,hP])
  · simp (maxSteps:=1000000) (disch:=omega) only [rg,gD,simprocAttr,k]
    refine ⟨_,_,_,_,w_text _ 1 (B,false) c.key (by simp only; omega) (by omega) (by simp) (by simp (disch:=omega) only [upd_eq,upd_ne,wo_0,wo_1,wo_2]), ?_⟩
    rw [wTxt_eq]
    simp (maxSteps:=1000000) (disch:=omega) only [rg,gD,simprocAttr]
    refine ⟨_,_,_,_,w_end _ 1 (B++(textS c.key).1,false || decide (255 < c.key.length)) (by simp only [List.length_append]; omega) (by simp) (by simp (disch:=omega) only [upd_eq,upd_ne,wo_0,wo_1,wo_2]), ?_⟩
    simp (maxSteps:=1000000) (disch:=omega) only [rg,gD,simprocAttr,sV]
    by_cases hT:c.key.length≤255
    · have:cmdP c:=by
        refine ⟨by omega,by omega,hb, ?_,fun h => by omega⟩
        simp [bareP,k] at hb
        obtain ⟨b1,b2,b3,b4,_⟩:=hb
        simp [fitP,b1,b2,b3,b4,hT]
      (refine fin_x rfl ?_ ?_<;>simp [pack,lo,loL,V.closed,closedL,mv_closed,sV,yes this,cmdBody,k,wEnd,show ¬ 255 < c.key.length by omega])
    · have:¬ cmdP c:=fun h => hT h.2.2.2.1.1
      (refine fin_x rfl ?_ ?_<;>simp [pack,lo,loL,V.closed,closedL,mv_closed,sV,no this,wEnd,show 255 < c.key.length by omega])
  · simp (maxSteps:=1000000) (disch:=omega) only [rg,gD,simprocAttr,k]
    refine ⟨_,_,_,_,w_text _ 1 (B,false) c.key (by simp only; omega) (by omega) (by simp) (by simp (disch:=omega) only [upd_eq,upd_ne,wo_0,wo_1,wo_2]), ?_⟩
    rw [wTxt_eq]
    simp (maxSteps:=1000000) (disch:=omega) only [rg,gD,simprocAttr]
    refine ⟨_,_,_,_,w_end _ 1 (B++(textS c.key).1,false || decide (255 < c.key.length)) (by simp only [List.length_append]; omega) (by simp) (by simp (disch:=omega) only [upd_eq,upd_ne,wo_0,wo_1,wo_2]), ?_⟩
    simp (maxSteps:=1000000) (disch:=omega) only [rg,gD,simprocAttr,sV]
    by_cases hT:c.key.length≤255
    · have:cmdP c:=by
        refine ⟨by omega,by omega,hb, ?_,fun h => by omega⟩
        simp [bareP,k] at hb
        obtain ⟨b1,b2,b3,b4,_⟩:=hb
        simp [fitP,b1,b2,b3,b4,hT]
      (refine fin_x rfl ?_ ?_<;>simp [pack,lo,loL,V.closed,closedL,mv_closed,sV,yes this,cmdBody,k,wEnd,show ¬ 255 < c.key.length by omega])
    · have:¬ cmdP c:=fun h => hT h.2.2.2.1.1
      (refine fin_x rfl ?_ ?_<;>simp [pack,lo,loL,V.closed,closedL,mv_closed,sV,no this,wEnd,show 255 < c.key.length by omega])
  · simp (maxSteps:=1000000) (disch:=omega) only [rg,gD,simprocAttr,k]
    refine ⟨_,_,_,_,w_num _ 1 (B,false) c.time 6 (by simp only; omega) o8 (by simp) (by simp (disch:=omega) only [upd_eq,upd_ne,wo_0,wo_1,wo_2]), ?_⟩
    rw [wNum_6]
    simp (maxSteps:=1000000) (disch:=omega) only [rg,gD,simprocAttr]
    refine ⟨_,_,_,_,w_end _ 1 (B++(putS c.time 6).1,false || !decide (0≤c.time∧c.time < 281474976710656)) (by simp only [List.length_append]; omega) (by simp) (by simp (disch:=omega) only [upd_eq,upd_ne,wo_0,wo_1,wo_2]), ?_⟩
    simp (maxSteps:=1000000) (disch:=omega) only [rg,gD,simprocAttr,sV]
    by_cases hP:0≤c.time∧c.time < 281474976710656
    · have:cmdP c:=by
        refine ⟨by omega,by omega,hb, ?_,fun h => by omega⟩
        simp [bareP,k] at hb
        obtain ⟨b1,b2,b3,b4,_⟩:=hb
        simp [fitP,b1,b2,b3,b4,hP]
      (refine fin_x rfl ?_ ?_<;>simp [pack,lo,loL,V.closed,closedL,mv_closed,sV,yes this,cmdBody,k,wEnd,hP])
    · have:¬ cmdP c:=fun h => hP ⟨h.2.2.2.1.2.2.2.2.2.1,h.2.2.2.1.2.2.2.2.2.2⟩
      (refine fin_x rfl ?_ ?_<;>simp [pack,lo,loL,V.closed,closedL,mv_closed,sV,no this,wEnd,hP])
  · simp (maxSteps:=1000000) (disch:=omega) only [rg,gD,simprocAttr,k1,k2,k4,k6,k5,k7,k9,k8]
    refine ⟨_,_,_,_,w_end _ 1 (B,false) (by simp only; omega) (by simp) (by simp (disch:=omega) only [upd_eq,upd_ne,wo_0,wo_1,wo_2]), ?_⟩
    simp (maxSteps:=1000000) (disch:=omega) only [rg,gD,simprocAttr,sV]
    have:cmdP c:=by
      refine ⟨by omega,by omega,hb, ?_,fun h => absurd h k1⟩
      simp [bareP,k1,k2,k4,k6,k5,k7,k9,k8] at hb
      obtain ⟨b1,b2,b3,b4,b5,_⟩:=hb
      simp [fitP,b1,b2,b3,b4,b5]
    (refine fin_x rfl ?_ ?_<;>simp [pack,lo,loL,V.closed,closedL,mv_closed,sV,yes this,cmdBody,k1,k2,k4,k6,k5,k7,k9,k8,wEnd])
def no1P (c:Cmd):Prop:=c.key=[]∧c.name=[]∧c.token=0∧c.time=0∧c.text=[]
instance (c:Cmd):Decidable (no1P c):=by unfold no1P; infer_instance
theorem no1 (c:Cmd):PCall Tryz.prog 78 [cmdV c,.bool true,.bool true,.bool true,.bool true,.bool true,.bool false] (.bool (decide (no1P c))):=by
  refine en78 (by simp) (by simp [closedL,V.closed,cmdV_closed]) ?_
  have no:¬ no1P c→decide (no1P c)=false:=decide_eq_false
  by_cases e0:c.key=[]
  case neg =>
    simp (maxSteps:=1000000) (disch:=omega) only [rg,gD,simprocAttr,c78,cmdV,tasksV,e0]
    (refine fin_x rfl ?_ ?_<;>simp [pack,lo,loL,V.closed,closedL,mv_closed,no (by simp [no1P,e0])])
  by_cases e1:c.name=[]
  case neg =>
    simp (maxSteps:=1000000) (disch:=omega) only [rg,gD,simprocAttr,c78,cmdV,tasksV,e0,e1]
    (refine fin_x rfl ?_ ?_<;>simp [pack,lo,loL,V.closed,closedL,mv_closed,no (by simp [no1P,e1])])
  by_cases e2:c.token=0
  case neg =>
    simp (maxSteps:=1000000) (disch:=omega) only [rg,gD,simprocAttr,c78,cmdV,tasksV,e0,e1,e2]
    (refine fin_x rfl ?_ ?_<;>simp [pack,lo,loL,V.closed,closedL,mv_closed,no (by simp [no1P,e2])])
  by_cases e3:c.time=0
  case neg =>
    simp (maxSteps:=1000000) (disch:=omega) only [rg,gD,simprocAttr,c78,cmdV,tasksV,e0,e1,e2,e3]
    (refine fin_x rfl ?_ ?_<;>simp [pack,lo,loL,V.closed,closedL,mv_closed,no (by simp [no1P,e3])])
  by_cases e4:c.text=[]
  case neg =>
    simp (maxSteps:=1000000) (disch:=omega) only [rg,gD,simprocAttr,c78,cmdV,tasksV,e0,e1,e2,e3,e4]
    (refine fin_x rfl ?_ ?_<;>simp [pack,lo,loL,V.closed,closedL,mv_closed,no (by simp [no1P,e4])])
  simp (maxSteps:=1000000) (disch:=omega) only [rg,gD,simprocAttr,c78,cmdV,tasksV,e0,e1,e2,e3,e4]
  (refine fin_x rfl ?_ ?_<;>simp [pack,lo,loL,V.closed,closedL,mv_closed,decide_eq_true (show no1P c from ⟨e0,e1,e2,e3,e4⟩)])
def no2P (c:Cmd):Prop:=c.token=0∧c.time=0∧c.text=[]∧noDag c.dag
instance (c:Cmd):Decidable (no2P c):=by unfold no2P; infer_instance
theorem no2 (c:Cmd):PCall Tryz.prog 78 [cmdV c,.bool false,.bool false,.bool true,.bool true,.bool true,.bool true] (.bool (decide (no2P c))):=by
  refine en78 (by simp) (by simp [closedL,V.closed,cmdV_closed]) ?_
  have no:¬ no2P c→decide (no2P c)=false:=decide_eq_false
  by_cases e2:c.token=0
  case neg =>
    simp (maxSteps:=1000000) (disch:=omega) only [rg,gD,simprocAttr,c78,cmdV,tasksV,e2]
    (refine fin_x rfl ?_ ?_<;>simp [pack,lo,loL,V.closed,closedL,mv_closed,no (by simp [no2P,e2])])
  by_cases e3:c.time=0
  case neg =>
    simp (maxSteps:=1000000) (disch:=omega) only [rg,gD,simprocAttr,c78,cmdV,tasksV,e2,e3]
    (refine fin_x rfl ?_ ?_<;>simp [pack,lo,loL,V.closed,closedL,mv_closed,no (by simp [no2P,e3])])
  by_cases e4:c.text=[]
  case neg =>
    simp (maxSteps:=1000000) (disch:=omega) only [rg,gD,simprocAttr,c78,cmdV,tasksV,e2,e3,e4]
    (refine fin_x rfl ?_ ?_<;>simp [pack,lo,loL,V.closed,closedL,mv_closed,no (by simp [no2P,e4])])
  by_cases e5:c.dag.name=[]
  case neg =>
    simp (maxSteps:=1000000) (disch:=omega) only [rg,gD,simprocAttr,c78,cmdV,tasksV,e2,e3,e4,e5]
    (refine fin_x rfl ?_ ?_<;>simp [pack,lo,loL,V.closed,closedL,mv_closed,no (by simp [no2P,noDag,e5])])
  by_cases e6:c.dag.tasks.length=0
  case neg =>
    simp (maxSteps:=1000000) (disch:=omega) only [rg,gD,simprocAttr,c78,cmdV,tasksV,e2,e3,e4,e5,show (0:Int) < c.dag.tasks.length by omega]
    (refine fin_x rfl ?_ ?_<;>simp [pack,lo,loL,V.closed,closedL,mv_closed,no (by simp [no2P,noDag,e6])])
  simp (maxSteps:=1000000) (disch:=omega) only [rg,gD,simprocAttr,c78,cmdV,tasksV,e2,e3,e4,e5,show ¬ (0:Int) < c.dag.tasks.length by omega]
  (refine fin_x rfl ?_ ?_<;>simp [pack,lo,loL,V.closed,closedL,mv_closed,decide_eq_true (show no2P c from ⟨e2,e3,e4,e5,e6⟩)])
def no46P (c:Cmd):Prop:=c.key=[]∧c.name=[]∧c.time=0∧c.text=[]∧noDag c.dag
instance (c:Cmd):Decidable (no46P c):=by unfold no46P; infer_instance
theorem no46 (c:Cmd):PCall Tryz.prog 78 [cmdV c,.bool true,.bool true,.bool false,.bool true,.bool true,.bool true] (.bool (decide (no46P c))):=by
  refine en78 (by simp) (by simp [closedL,V.closed,cmdV_closed]) ?_
  have no:¬ no46P c→decide (no46P c)=false:=decide_eq_false
  by_cases e0:c.key=[]
  case neg =>
    simp (maxSteps:=1000000) (disch:=omega) only [rg,gD,simprocAttr,c78,cmdV,tasksV,e0]
    (refine fin_x rfl ?_ ?_<;>simp [pack,lo,loL,V.closed,closedL,mv_closed,no (by simp [no46P,e0])])
  by_cases e1:c.name=[]
  case neg =>
    simp (maxSteps:=1000000) (disch:=omega) only [rg,gD,simprocAttr,c78,cmdV,tasksV,e0,e1]
    (refine fin_x rfl ?_ ?_<;>simp [pack,lo,loL,V.closed,closedL,mv_closed,no (by simp [no46P,e1])])
  by_cases e3:c.time=0
  case neg =>
    simp (maxSteps:=1000000) (disch:=omega) only [rg,gD,simprocAttr,c78,cmdV,tasksV,e0,e1,e3]
    (refine fin_x rfl ?_ ?_<;>simp [pack,lo,loL,V.closed,closedL,mv_closed,no (by simp [no46P,e3])])
  by_cases e4:c.text=[]
  case neg =>
    simp (maxSteps:=1000000) (disch:=omega) only [rg,gD,simprocAttr,c78,cmdV,tasksV,e0,e1,e3,e4]
    (refine fin_x rfl ?_ ?_<;>simp [pack,lo,loL,V.closed,closedL,mv_closed,no (by simp [no46P,e4])])
  by_cases e5:c.dag.name=[]
  case neg =>
    simp (maxSteps:=1000000) (disch:=omega) only [rg,gD,simprocAttr,c78,cmdV,tasksV,e0,e1,e3,e4,e5]
    (refine fin_x rfl ?_ ?_<;>simp [pack,lo,loL,V.closed,closedL,mv_closed,no (by simp [no46P,noDag,e5])])
  by_cases e6:c.dag.tasks.length=0
  case neg =>
    simp (maxSteps:=1000000) (disch:=omega) only [rg,gD,simprocAttr,c78,cmdV,tasksV,e0,e1,e3,e4,e5,show (0:Int) < c.dag.tasks.length by omega]
    (refine fin_x rfl ?_ ?_<;>simp [pack,lo,loL,V.closed,closedL,mv_closed,no (by simp [no46P,noDag,e6])])
  simp (maxSteps:=1000000) (disch:=omega) only [rg,gD,simprocAttr,c78,cmdV,tasksV,e0,e1,e3,e4,e5,show ¬ (0:Int) < c.dag.tasks.length by omega]
  (refine fin_x rfl ?_ ?_<;>simp [pack,lo,loL,V.closed,closedL,mv_closed,decide_eq_true (show no46P c from ⟨e0,e1,e3,e4,e5,e6⟩)])
def no5P (c:Cmd):Prop:=c.key=[]∧c.name=[]∧c.time=0∧noDag c.dag
instance (c:Cmd):Decidable (no5P c):=by unfold no5P; infer_instance
theorem no5 (c:Cmd):PCall Tryz.prog 78 [cmdV c,.bool true,.bool true,.bool false,.bool true,.bool false,.bool true] (.bool (decide (no5P c))):=by
  refine en78 (by simp) (by simp [closedL,V.closed,cmdV_closed]) ?_
  have no:¬ no5P c→decide (no5P c)=false:=decide_eq_false
  by_cases e0:c.key=[]
  case neg =>
    simp (maxSteps:=1000000) (disch:=omega) only [rg,gD,simprocAttr,c78,cmdV,tasksV,e0]
    (refine fin_x rfl ?_ ?_<;>simp [pack,lo,loL,V.closed,closedL,mv_closed,no (by simp [no5P,e0])])
  by_cases e1:c.name=[]
  case neg =>
    simp (maxSteps:=1000000) (disch:=omega) only [rg,gD,simprocAttr,c78,cmdV,tasksV,e0,e1]
    (refine fin_x rfl ?_ ?_<;>simp [pack,lo,loL,V.closed,closedL,mv_closed,no (by simp [no5P,e1])])
  by_cases e3:c.time=0
  case neg =>
    simp (maxSteps:=1000000) (disch:=omega) only [rg,gD,simprocAttr,c78,cmdV,tasksV,e0,e1,e3]
    (refine fin_x rfl ?_ ?_<;>simp [pack,lo,loL,V.closed,closedL,mv_closed,no (by simp [no5P,e3])])
  by_cases e5:c.dag.name=[]
  case neg =>
    simp (maxSteps:=1000000) (disch:=omega) only [rg,gD,simprocAttr,c78,cmdV,tasksV,e0,e1,e3,e5]
    (refine fin_x rfl ?_ ?_<;>simp [pack,lo,loL,V.closed,closedL,mv_closed,no (by simp [no5P,noDag,e5])])
  by_cases e6:c.dag.tasks.length=0
  case neg =>
    simp (maxSteps:=1000000) (disch:=omega) only [rg,gD,simprocAttr,c78,cmdV,tasksV,e0,e1,e3,e5,show (0:Int) < c.dag.tasks.length by omega]
    (refine fin_x rfl ?_ ?_<;>simp [pack,lo,loL,V.closed,closedL,mv_closed,no (by simp [no5P,noDag,e6])])
  simp (maxSteps:=1000000) (disch:=omega) only [rg,gD,simprocAttr,c78,cmdV,tasksV,e0,e1,e3,e5,show ¬ (0:Int) < c.dag.tasks.length by omega]
  (refine fin_x rfl ?_ ?_<;>simp [pack,lo,loL,V.closed,closedL,mv_closed,decide_eq_true (show no5P c from ⟨e0,e1,e3,e5,e6⟩)])
def no79P (c:Cmd):Prop:=c.name=[]∧c.token=0∧c.time=0∧c.text=[]∧noDag c.dag
instance (c:Cmd):Decidable (no79P c):=by unfold no79P; infer_instance
theorem no79 (c:Cmd):PCall Tryz.prog 78 [cmdV c,.bool false,.bool true,.bool true,.bool true,.bool true,.bool true] (.bool (decide (no79P c))):=by
  refine en78 (by simp) (by simp [closedL,V.closed,cmdV_closed]) ?_
  have no:¬ no79P c→decide (no79P c)=false:=decide_eq_false
  by_cases e1:c.name=[]
  case neg =>
    simp (maxSteps:=1000000) (disch:=omega) only [rg,gD,simprocAttr,c78,cmdV,tasksV,e1]
    (refine fin_x rfl ?_ ?_<;>simp [pack,lo,loL,V.closed,closedL,mv_closed,no (by simp [no79P,e1])])
  by_cases e2:c.token=0
  case neg =>
    simp (maxSteps:=1000000) (disch:=omega) only [rg,gD,simprocAttr,c78,cmdV,tasksV,e1,e2]
    (refine fin_x rfl ?_ ?_<;>simp [pack,lo,loL,V.closed,closedL,mv_closed,no (by simp [no79P,e2])])
  by_cases e3:c.time=0
  case neg =>
    simp (maxSteps:=1000000) (disch:=omega) only [rg,gD,simprocAttr,c78,cmdV,tasksV,e1,e2,e3]
    (refine fin_x rfl ?_ ?_<;>simp [pack,lo,loL,V.closed,closedL,mv_closed,no (by simp [no79P,e3])])
  by_cases e4:c.text=[]
  case neg =>
    simp (maxSteps:=1000000) (disch:=omega) only [rg,gD,simprocAttr,c78,cmdV,tasksV,e1,e2,e3,e4]
    (refine fin_x rfl ?_ ?_<;>simp [pack,lo,loL,V.closed,closedL,mv_closed,no (by simp [no79P,e4])])
  by_cases e5:c.dag.name=[]
  case neg =>
    simp (maxSteps:=1000000) (disch:=omega) only [rg,gD,simprocAttr,c78,cmdV,tasksV,e1,e2,e3,e4,e5]
    (refine fin_x rfl ?_ ?_<;>simp [pack,lo,loL,V.closed,closedL,mv_closed,no (by simp [no79P,noDag,e5])])
  by_cases e6:c.dag.tasks.length=0
  case neg =>
    simp (maxSteps:=1000000) (disch:=omega) only [rg,gD,simprocAttr,c78,cmdV,tasksV,e1,e2,e3,e4,e5,show (0:Int) < c.dag.tasks.length by omega]
    (refine fin_x rfl ?_ ?_<;>simp [pack,lo,loL,V.closed,closedL,mv_closed,no (by simp [no79P,noDag,e6])])
  simp (maxSteps:=1000000) (disch:=omega) only [rg,gD,simprocAttr,c78,cmdV,tasksV,e1,e2,e3,e4,e5,show ¬ (0:Int) < c.dag.tasks.length by omega]
  (refine fin_x rfl ?_ ?_<;>simp [pack,lo,loL,V.closed,closedL,mv_closed,decide_eq_true (show no79P c from ⟨e1,e2,e3,e4,e5,e6⟩)])
def no8P (c:Cmd):Prop:=c.key=[]∧c.name=[]∧c.token=0∧c.text=[]∧noDag c.dag
instance (c:Cmd):Decidable (no8P c):=by unfold no8P; infer_instance
theorem no8 (c:Cmd):PCall Tryz.prog 78 [cmdV c,.bool true,.bool true,.bool true,.bool false,.bool true,.bool true] (.bool (decide (no8P c))):=by
  refine en78 (by simp) (by simp [closedL,V.closed,cmdV_closed]) ?_
  have no:¬ no8P c→decide (no8P c)=false:=decide_eq_false
  by_cases e0:c.key=[]
  case neg =>
    simp (maxSteps:=1000000) (disch:=omega) only [rg,gD,simprocAttr,c78,cmdV,tasksV,e0]
    (refine fin_x rfl ?_ ?_<;>simp [pack,lo,loL,V.closed,closedL,mv_closed,no (by simp [no8P,e0])])
  by_cases e1:c.name=[]
  case neg =>
    simp (maxSteps:=1000000) (disch:=omega) only [rg,gD,simprocAttr,c78,cmdV,tasksV,e0,e1]
    (refine fin_x rfl ?_ ?_<;>simp [pack,lo,loL,V.closed,closedL,mv_closed,no (by simp [no8P,e1])])
  by_cases e2:c.token=0
  case neg =>
    simp (maxSteps:=1000000) (disch:=omega) only [rg,gD,simprocAttr,c78,cmdV,tasksV,e0,e1,e2]
    (refine fin_x rfl ?_ ?_<;>simp [pack,lo,loL,V.closed,closedL,mv_closed,no (by simp [no8P,e2])])
  by_cases e4:c.text=[]
  case neg =>
    simp (maxSteps:=1000000) (disch:=omega) only [rg,gD,simprocAttr,c78,cmdV,tasksV,e0,e1,e2,e4]
    (refine fin_x rfl ?_ ?_<;>simp [pack,lo,loL,V.closed,closedL,mv_closed,no (by simp [no8P,e4])])
  by_cases e5:c.dag.name=[]
  case neg =>
    simp (maxSteps:=1000000) (disch:=omega) only [rg,gD,simprocAttr,c78,cmdV,tasksV,e0,e1,e2,e4,e5]
    (refine fin_x rfl ?_ ?_<;>simp [pack,lo,loL,V.closed,closedL,mv_closed,no (by simp [no8P,noDag,e5])])
  by_cases e6:c.dag.tasks.length=0
  case neg =>
    simp (maxSteps:=1000000) (disch:=omega) only [rg,gD,simprocAttr,c78,cmdV,tasksV,e0,e1,e2,e4,e5,show (0:Int) < c.dag.tasks.length by omega]
    (refine fin_x rfl ?_ ?_<;>simp [pack,lo,loL,V.closed,closedL,mv_closed,no (by simp [no8P,noDag,e6])])
  simp (maxSteps:=1000000) (disch:=omega) only [rg,gD,simprocAttr,c78,cmdV,tasksV,e0,e1,e2,e4,e5,show ¬ (0:Int) < c.dag.tasks.length by omega]
  (refine fin_x rfl ?_ ?_<;>simp [pack,lo,loL,V.closed,closedL,mv_closed,decide_eq_true (show no8P c from ⟨e0,e1,e2,e4,e5,e6⟩)])
def no0P (c:Cmd):Prop:=c.key=[]∧c.name=[]∧c.token=0∧c.time=0∧c.text=[]∧noDag c.dag
instance (c:Cmd):Decidable (no0P c):=by unfold no0P; infer_instance
theorem no0 (c:Cmd):PCall Tryz.prog 78 [cmdV c,.bool true,.bool true,.bool true,.bool true,.bool true,.bool true] (.bool (decide (no0P c))):=by
  refine en78 (by simp) (by simp [closedL,V.closed,cmdV_closed]) ?_
  have no:¬ no0P c→decide (no0P c)=false:=decide_eq_false
  by_cases e0:c.key=[]
  case neg =>
    simp (maxSteps:=1000000) (disch:=omega) only [rg,gD,simprocAttr,c78,cmdV,tasksV,e0]
    (refine fin_x rfl ?_ ?_<;>simp [pack,lo,loL,V.closed,closedL,mv_closed,no (by simp [no0P,e0])])
  by_cases e1:c.name=[]
  case neg =>
    simp (maxSteps:=1000000) (disch:=omega) only [rg,gD,simprocAttr,c78,cmdV,tasksV,e0,e1]
    (refine fin_x rfl ?_ ?_<;>simp [pack,lo,loL,V.closed,closedL,mv_closed,no (by simp [no0P,e1])])
  by_cases e2:c.token=0
  case neg =>
    simp (maxSteps:=1000000) (disch:=omega) only [rg,gD,simprocAttr,c78,cmdV,tasksV,e0,e1,e2]
    (refine fin_x rfl ?_ ?_<;>simp [pack,lo,loL,V.closed,closedL,mv_closed,no (by simp [no0P,e2])])
  by_cases e3:c.time=0
  case neg =>
    simp (maxSteps:=1000000) (disch:=omega) only [rg,gD,simprocAttr,c78,cmdV,tasksV,e0,e1,e2,e3]
    (refine fin_x rfl ?_ ?_<;>simp [pack,lo,loL,V.closed,closedL,mv_closed,no (by simp [no0P,e3])])
  by_cases e4:c.text=[]
  case neg =>
    simp (maxSteps:=1000000) (disch:=omega) only [rg,gD,simprocAttr,c78,cmdV,tasksV,e0,e1,e2,e3,e4]
    (refine fin_x rfl ?_ ?_<;>simp [pack,lo,loL,V.closed,closedL,mv_closed,no (by simp [no0P,e4])])
  by_cases e5:c.dag.name=[]
  case neg =>
    simp (maxSteps:=1000000) (disch:=omega) only [rg,gD,simprocAttr,c78,cmdV,tasksV,e0,e1,e2,e3,e4,e5]
    (refine fin_x rfl ?_ ?_<;>simp [pack,lo,loL,V.closed,closedL,mv_closed,no (by simp [no0P,noDag,e5])])
  by_cases e6:c.dag.tasks.length=0
  case neg =>
    simp (maxSteps:=1000000) (disch:=omega) only [rg,gD,simprocAttr,c78,cmdV,tasksV,e0,e1,e2,e3,e4,e5,show (0:Int) < c.dag.tasks.length by omega]
    (refine fin_x rfl ?_ ?_<;>simp [pack,lo,loL,V.closed,closedL,mv_closed,no (by simp [no0P,noDag,e6])])
  simp (maxSteps:=1000000) (disch:=omega) only [rg,gD,simprocAttr,c78,cmdV,tasksV,e0,e1,e2,e3,e4,e5,show ¬ (0:Int) < c.dag.tasks.length by omega]
  (refine fin_x rfl ?_ ?_<;>simp [pack,lo,loL,V.closed,closedL,mv_closed,decide_eq_true (show no0P c from ⟨e0,e1,e2,e3,e4,e5,e6⟩)])
theorem bare_no (c:Cmd):(c.kind=1→(bareP c↔no1P c))∧(c.kind=2→(bareP c↔no2P c))∧(c.kind=4∨c.kind=6→(bareP c↔no46P c))∧(c.kind=5→(bareP c↔no5P c))∧(c.kind=7∨c.kind=9→(bareP c↔no79P c))∧(c.kind=8→(bareP c↔no8P c)) ∧
    (c.kind=3∨c.kind=10→(bareP c↔no0P c)):=by
  refine ⟨fun h => ?_,fun h => ?_,fun h => ?_,fun h => ?_,fun h => ?_,fun h => ?_,fun h => ?_⟩
  · simp [bareP,no1P,h]
  · simp [bareP,no2P,h]
  · rcases h with h | h<;>simp [bareP,no46P,h]
  · simp [bareP,no5P,h]
  · rcases h with h | h<;>simp [bareP,no79P,h]
  · simp [bareP,no8P,h]
  · rcases h with h | h<;>simp [bareP,no0P,h]
theorem ref23_put (c:Cmd) (hc:okCmd c):PCall Tryz.prog 56 [cmdV c] (sV (cmdPutS c)):=by
  refine en56 (by simp) (by simp [closedL,V.closed,cmdV_closed]) ?_
  obtain ⟨o1,o2,o3,o4,o5,o6,o7,o8⟩:=hc
  have no:¬ cmdP c→cmdPutS c=([],1):=fun h => by rw [cmdPutS,if_neg h]
  have yes:cmdP c→cmdPutS c=(sealS ((putS c.kind 1).1++cmdBody c),0):=fun h => by rw [cmdPutS,if_pos h]; rfl
  have hk1:=putS_len1 c.kind
  have tk:=textS_len2 c.key
  have tn:=textS_len2 c.name
  have tt:=textS_len2 c.text
  have p6:=putS_len6 c.token
  have q6:=putS_len6 c.time
  have n1:=no1 c
  have n2:=no2 c
  have n46:=no46 c
  have n5:=no5 c
  have n79:=no79 c
  have n8:=no8 c
  have n0:=no0 c
  have kr:=ref_right c.dag o5 o4
  obtain ⟨b1,b2,b46,b5,b79,b8,b0⟩:=bare_no c
  unfold cmdV tasksV at n1 n2 n46 n5 n79 n8 n0
  unfold dagV tasksV at kr
  by_cases f0:c.key.length≤255
  case neg =>
    have hf:¬ cmdP c:=fun h => f0 h.2.2.2.1.1
    simp (maxSteps:=1000000) (disch:=omega) only [rg,gD,simprocAttr,c56,cmdV,tasksV,show ¬ (c.key.length:Int)≤255 by omega]
    rcases kinds c.kind with k | k | k | k | k | k | k | k | ⟨k1,k2,k4,k6,k5,k7,k9,k8⟩
    · simp (maxSteps:=1000000) (disch:=omega) only [rg,gD,simprocAttr,k]
      (refine fin_x rfl ?_ ?_<;>simp [pack,lo,loL,V.closed,closedL,mv_closed,sV,no hf])
    · simp (maxSteps:=1000000) (disch:=omega) only [rg,gD,simprocAttr,k]
      refine ⟨_,ref23_text c.key (by omega), ?_⟩
      simp (maxSteps:=1000000) (disch:=omega) only [rg,gD,simprocAttr]
      refine ⟨_,ref23_text c.name (by omega), ?_⟩
      simp (maxSteps:=1000000) (disch:=omega) only [rg,gD,simprocAttr]
      refine ⟨by omega, ?_⟩
      (refine fin_x rfl ?_ ?_<;>simp [pack,lo,loL,V.closed,closedL,mv_closed,sV,no hf])
    · simp (maxSteps:=1000000) (disch:=omega) only [rg,gD,simprocAttr,k]
      refine ⟨_,ref23_number c.token 6 o7, ?_⟩
      simp (maxSteps:=1000000) (disch:=omega) only [rg,gD,simprocAttr]
      (refine fin_x rfl ?_ ?_<;>simp [pack,lo,loL,V.closed,closedL,mv_closed,sV,no hf])
    · simp (maxSteps:=1000000) (disch:=omega) only [rg,gD,simprocAttr,k]
      refine ⟨_,ref23_number c.token 6 o7, ?_⟩
      simp (maxSteps:=1000000) (disch:=omega) only [rg,gD,simprocAttr]
      (refine fin_x rfl ?_ ?_<;>simp [pack,lo,loL,V.closed,closedL,mv_closed,sV,no hf])
    · simp (maxSteps:=1000000) (disch:=omega) only [rg,gD,simprocAttr,k]
      refine ⟨_,ref23_number c.token 6 o7, ?_⟩
      simp (maxSteps:=1000000) (disch:=omega) only [rg,gD,simprocAttr]
      refine ⟨_,ref23_text c.text (by omega), ?_⟩
      simp (maxSteps:=1000000) (disch:=omega) only [rg,gD,simprocAttr]
      refine ⟨by omega, ?_⟩
      (refine fin_x rfl ?_ ?_<;>simp [pack,lo,loL,V.closed,closedL,mv_closed,sV,no hf])
    · simp (maxSteps:=1000000) (disch:=omega) only [rg,gD,simprocAttr,k]
      refine ⟨_,ref23_text c.key (by omega), ?_⟩
      simp (maxSteps:=1000000) (disch:=omega) only [rg,gD,simprocAttr]
      (refine fin_x rfl ?_ ?_<;>simp [pack,lo,loL,V.closed,closedL,mv_closed,sV,no hf])
    · simp (maxSteps:=1000000) (disch:=omega) only [rg,gD,simprocAttr,k]
      refine ⟨_,ref23_text c.key (by omega), ?_⟩
      simp (maxSteps:=1000000) (disch:=omega) only [rg,gD,simprocAttr]
      (refine fin_x rfl ?_ ?_<;>simp [pack,lo,loL,V.closed,closedL,mv_closed,sV,no hf])
    · simp (maxSteps:=1000000) (disch:=omega) only [rg,gD,simprocAttr,k]
      refine ⟨_,ref23_number c.time 6 o8, ?_⟩
      simp (maxSteps:=1000000) (disch:=omega) only [rg,gD,simprocAttr]
      (refine fin_x rfl ?_ ?_<;>simp [pack,lo,loL,V.closed,closedL,mv_closed,sV,no hf])
    · by_cases k3:c.kind=3
      · simp (maxSteps:=1000000) (disch:=omega) only [rg,gD,simprocAttr,k3]
        (refine fin_x rfl ?_ ?_<;>simp [pack,lo,loL,V.closed,closedL,mv_closed,sV,no hf])
      by_cases k10:c.kind=10
      · simp (maxSteps:=1000000) (disch:=omega) only [rg,gD,simprocAttr,k10]
        (refine fin_x rfl ?_ ?_<;>simp [pack,lo,loL,V.closed,closedL,mv_closed,sV,no hf])
      simp (maxSteps:=1000000) (disch:=omega) only [rg,gD,simprocAttr,k1,k2,k4,k6,k5,k7,k9,k8,k3,k10]
      (refine fin_x rfl ?_ ?_<;>simp [pack,lo,loL,V.closed,closedL,mv_closed,sV,no hf])
  by_cases f1:c.name.length≤255
  case neg =>
    have hf:¬ cmdP c:=fun h => f1 h.2.2.2.1.2.1
    simp (maxSteps:=1000000) (disch:=omega) only [rg,gD,simprocAttr,c56,cmdV,tasksV,show (c.key.length:Int)≤255 by omega,show ¬ (c.name.length:Int)≤255 by omega]
    rcases kinds c.kind with k | k | k | k | k | k | k | k | ⟨k1,k2,k4,k6,k5,k7,k9,k8⟩
    · simp (maxSteps:=1000000) (disch:=omega) only [rg,gD,simprocAttr,k]
      (refine fin_x rfl ?_ ?_<;>simp [pack,lo,loL,V.closed,closedL,mv_closed,sV,no hf])
    · simp (maxSteps:=1000000) (disch:=omega) only [rg,gD,simprocAttr,k]
      refine ⟨_,ref23_text c.key (by omega), ?_⟩
      simp (maxSteps:=1000000) (disch:=omega) only [rg,gD,simprocAttr]
      refine ⟨_,ref23_text c.name (by omega), ?_⟩
      simp (maxSteps:=1000000) (disch:=omega) only [rg,gD,simprocAttr]
      refine ⟨by omega, ?_⟩
      (refine fin_x rfl ?_ ?_<;>simp [pack,lo,loL,V.closed,closedL,mv_closed,sV,no hf])
    · simp (maxSteps:=1000000) (disch:=omega) only [rg,gD,simprocAttr,k]
      refine ⟨_,ref23_number c.token 6 o7, ?_⟩
      simp (maxSteps:=1000000) (disch:=omega) only [rg,gD,simprocAttr]
      (refine fin_x rfl ?_ ?_<;>simp [pack,lo,loL,V.closed,closedL,mv_closed,sV,no hf])
    · simp (maxSteps:=1000000) (disch:=omega) only [rg,gD,simprocAttr,k]
      refine ⟨_,ref23_number c.token 6 o7, ?_⟩
      simp (maxSteps:=1000000) (disch:=omega) only [rg,gD,simprocAttr]
      (refine fin_x rfl ?_ ?_<;>simp [pack,lo,loL,V.closed,closedL,mv_closed,sV,no hf])
    · simp (maxSteps:=1000000) (disch:=omega) only [rg,gD,simprocAttr,k]
      refine ⟨_,ref23_number c.token 6 o7, ?_⟩
      simp (maxSteps:=1000000) (disch:=omega) only [rg,gD,simprocAttr]
      refine ⟨_,ref23_text c.text (by omega), ?_⟩
      simp (maxSteps:=1000000) (disch:=omega) only [rg,gD,simprocAttr]
      refine ⟨by omega, ?_⟩
      (refine fin_x rfl ?_ ?_<;>simp [pack,lo,loL,V.closed,closedL,mv_closed,sV,no hf])
    · simp (maxSteps:=1000000) (disch:=omega) only [rg,gD,simprocAttr,k]
      refine ⟨_,ref23_text c.key (by omega), ?_⟩
      simp (maxSteps:=1000000) (disch:=omega) only [rg,gD,simprocAttr]
      (refine fin_x rfl ?_ ?_<;>simp [pack,lo,loL,V.closed,closedL,mv_closed,sV,no hf])
    · simp (maxSteps:=1000000) (disch:=omega) only [rg,gD,simprocAttr,k]
      refine ⟨_,ref23_text c.key (by omega), ?_⟩
      simp (maxSteps:=1000000) (disch:=omega) only [rg,gD,simprocAttr]
      (refine fin_x rfl ?_ ?_<;>simp [pack,lo,loL,V.closed,closedL,mv_closed,sV,no hf])
    · simp (maxSteps:=1000000) (disch:=omega) only [rg,gD,simprocAttr,k]
      refine ⟨_,ref23_number c.time 6 o8, ?_⟩
      simp (maxSteps:=1000000) (disch:=omega) only [rg,gD,simprocAttr]
      (refine fin_x rfl ?_ ?_<;>simp [pack,lo,loL,V.closed,closedL,mv_closed,sV,no hf])
    · by_cases k3:c.kind=3
      · simp (maxSteps:=1000000) (disch:=omega) only [rg,gD,simprocAttr,k3]
        (refine fin_x rfl ?_ ?_<;>simp [pack,lo,loL,V.closed,closedL,mv_closed,sV,no hf])
      by_cases k10:c.kind=10
      · simp (maxSteps:=1000000) (disch:=omega) only [rg,gD,simprocAttr,k10]
        (refine fin_x rfl ?_ ?_<;>simp [pack,lo,loL,V.closed,closedL,mv_closed,sV,no hf])
      simp (maxSteps:=1000000) (disch:=omega) only [rg,gD,simprocAttr,k1,k2,k4,k6,k5,k7,k9,k8,k3,k10]
      (refine fin_x rfl ?_ ?_<;>simp [pack,lo,loL,V.closed,closedL,mv_closed,sV,no hf])
  by_cases f2:c.text.length≤255
  case neg =>
    have hf:¬ cmdP c:=fun h => f2 h.2.2.2.1.2.2.1
    simp (maxSteps:=1000000) (disch:=omega) only [rg,gD,simprocAttr,c56,cmdV,tasksV,show (c.key.length:Int)≤255 by omega,show (c.name.length:Int)≤255 by omega,show ¬ (c.text.length:Int)≤255 by omega]
    rcases kinds c.kind with k | k | k | k | k | k | k | k | ⟨k1,k2,k4,k6,k5,k7,k9,k8⟩
    · simp (maxSteps:=1000000) (disch:=omega) only [rg,gD,simprocAttr,k]
      (refine fin_x rfl ?_ ?_<;>simp [pack,lo,loL,V.closed,closedL,mv_closed,sV,no hf])
    · simp (maxSteps:=1000000) (disch:=omega) only [rg,gD,simprocAttr,k]
      refine ⟨_,ref23_text c.key (by omega), ?_⟩
      simp (maxSteps:=1000000) (disch:=omega) only [rg,gD,simprocAttr]
      refine ⟨_,ref23_text c.name (by omega), ?_⟩
      simp (maxSteps:=1000000) (disch:=omega) only [rg,gD,simprocAttr]
      refine ⟨by omega, ?_⟩
      (refine fin_x rfl ?_ ?_<;>simp [pack,lo,loL,V.closed,closedL,mv_closed,sV,no hf])
    · simp (maxSteps:=1000000) (disch:=omega) only [rg,gD,simprocAttr,k]
      refine ⟨_,ref23_number c.token 6 o7, ?_⟩
      simp (maxSteps:=1000000) (disch:=omega) only [rg,gD,simprocAttr]
      (refine fin_x rfl ?_ ?_<;>simp [pack,lo,loL,V.closed,closedL,mv_closed,sV,no hf])
    · simp (maxSteps:=1000000) (disch:=omega) only [rg,gD,simprocAttr,k]
      refine ⟨_,ref23_number c.token 6 o7, ?_⟩
      simp (maxSteps:=1000000) (disch:=omega) only [rg,gD,simprocAttr]
      (refine fin_x rfl ?_ ?_<;>simp [pack,lo,loL,V.closed,closedL,mv_closed,sV,no hf])
    · simp (maxSteps:=1000000) (disch:=omega) only [rg,gD,simprocAttr,k]
      refine ⟨_,ref23_number c.token 6 o7, ?_⟩
      simp (maxSteps:=1000000) (disch:=omega) only [rg,gD,simprocAttr]
      refine ⟨_,ref23_text c.text (by omega), ?_⟩
      simp (maxSteps:=1000000) (disch:=omega) only [rg,gD,simprocAttr]
      refine ⟨by omega, ?_⟩
      (refine fin_x rfl ?_ ?_<;>simp [pack,lo,loL,V.closed,closedL,mv_closed,sV,no hf])
    · simp (maxSteps:=1000000) (disch:=omega) only [rg,gD,simprocAttr,k]
      refine ⟨_,ref23_text c.key (by omega), ?_⟩
      simp (maxSteps:=1000000) (disch:=omega) only [rg,gD,simprocAttr]
      (refine fin_x rfl ?_ ?_<;>simp [pack,lo,loL,V.closed,closedL,mv_closed,sV,no hf])
    · simp (maxSteps:=1000000) (disch:=omega) only [rg,gD,simprocAttr,k]
      refine ⟨_,ref23_text c.key (by omega), ?_⟩
      simp (maxSteps:=1000000) (disch:=omega) only [rg,gD,simprocAttr]
      (refine fin_x rfl ?_ ?_<;>simp [pack,lo,loL,V.closed,closedL,mv_closed,sV,no hf])
    · simp (maxSteps:=1000000) (disch:=omega) only [rg,gD,simprocAttr,k]
      refine ⟨_,ref23_number c.time 6 o8, ?_⟩
      simp (maxSteps:=1000000) (disch:=omega) only [rg,gD,simprocAttr]
      (refine fin_x rfl ?_ ?_<;>simp [pack,lo,loL,V.closed,closedL,mv_closed,sV,no hf])
    · by_cases k3:c.kind=3
      · simp (maxSteps:=1000000) (disch:=omega) only [rg,gD,simprocAttr,k3]
        (refine fin_x rfl ?_ ?_<;>simp [pack,lo,loL,V.closed,closedL,mv_closed,sV,no hf])
      by_cases k10:c.kind=10
      · simp (maxSteps:=1000000) (disch:=omega) only [rg,gD,simprocAttr,k10]
        (refine fin_x rfl ?_ ?_<;>simp [pack,lo,loL,V.closed,closedL,mv_closed,sV,no hf])
      simp (maxSteps:=1000000) (disch:=omega) only [rg,gD,simprocAttr,k1,k2,k4,k6,k5,k7,k9,k8,k3,k10]
      (refine fin_x rfl ?_ ?_<;>simp [pack,lo,loL,V.closed,closedL,mv_closed,sV,no hf])
  simp (maxSteps:=1000000) (disch:=omega) only [rg,gD,simprocAttr,c56,cmdV,tasksV,show (c.key.length:Int)≤255 by omega,show (c.name.length:Int)≤255 by omega,show (c.text.length:Int)≤255 by omega]
  refine ⟨_,ref23_six c.token, ?_⟩
  by_cases g0:0≤c.token∧c.token < 281474976710656
  case neg =>
    have hf:¬ cmdP c:=fun h => g0 ⟨h.2.2.2.1.2.2.2.1,h.2.2.2.1.2.2.2.2.1⟩
    rw [decide_eq_false g0]
    simp (maxSteps:=1000000) (disch:=omega) only [rg,gD,simprocAttr]
    rcases kinds c.kind with k | k | k | k | k | k | k | k | ⟨k1,k2,k4,k6,k5,k7,k9,k8⟩
    · simp (maxSteps:=1000000) (disch:=omega) only [rg,gD,simprocAttr,k]
      (refine fin_x rfl ?_ ?_<;>simp [pack,lo,loL,V.closed,closedL,mv_closed,sV,no hf])
    · simp (maxSteps:=1000000) (disch:=omega) only [rg,gD,simprocAttr,k]
      refine ⟨_,ref23_text c.key (by omega), ?_⟩
      simp (maxSteps:=1000000) (disch:=omega) only [rg,gD,simprocAttr]
      refine ⟨_,ref23_text c.name (by omega), ?_⟩
      simp (maxSteps:=1000000) (disch:=omega) only [rg,gD,simprocAttr]
      refine ⟨by omega, ?_⟩
      (refine fin_x rfl ?_ ?_<;>simp [pack,lo,loL,V.closed,closedL,mv_closed,sV,no hf])
    · simp (maxSteps:=1000000) (disch:=omega) only [rg,gD,simprocAttr,k]
      refine ⟨_,ref23_number c.token 6 o7, ?_⟩
      simp (maxSteps:=1000000) (disch:=omega) only [rg,gD,simprocAttr]
      (refine fin_x rfl ?_ ?_<;>simp [pack,lo,loL,V.closed,closedL,mv_closed,sV,no hf])
    · simp (maxSteps:=1000000) (disch:=omega) only [rg,gD,simprocAttr,k]
      refine ⟨_,ref23_number c.token 6 o7, ?_⟩
      simp (maxSteps:=1000000) (disch:=omega) only [rg,gD,simprocAttr]
      (refine fin_x rfl ?_ ?_<;>simp [pack,lo,loL,V.closed,closedL,mv_closed,sV,no hf])
    · simp (maxSteps:=1000000) (disch:=omega) only [rg,gD,simprocAttr,k]
      refine ⟨_,ref23_number c.token 6 o7, ?_⟩
      simp (maxSteps:=1000000) (disch:=omega) only [rg,gD,simprocAttr]
      refine ⟨_,ref23_text c.text (by omega), ?_⟩
      simp (maxSteps:=1000000) (disch:=omega) only [rg,gD,simprocAttr]
      refine ⟨by omega, ?_⟩
      (refine fin_x rfl ?_ ?_<;>simp [pack,lo,loL,V.closed,closedL,mv_closed,sV,no hf])
    · simp (maxSteps:=1000000) (disch:=omega) only [rg,gD,simprocAttr,k]
      refine ⟨_,ref23_text c.key (by omega), ?_⟩
      simp (maxSteps:=1000000) (disch:=omega) only [rg,gD,simprocAttr]
      (refine fin_x rfl ?_ ?_<;>simp [pack,lo,loL,V.closed,closedL,mv_closed,sV,no hf])
    · simp (maxSteps:=1000000) (disch:=omega) only [rg,gD,simprocAttr,k]
      refine ⟨_,ref23_text c.key (by omega), ?_⟩
      simp (maxSteps:=1000000) (disch:=omega) only [rg,gD,simprocAttr]
      (refine fin_x rfl ?_ ?_<;>simp [pack,lo,loL,V.closed,closedL,mv_closed,sV,no hf])
    · simp (maxSteps:=1000000) (disch:=omega) only [rg,gD,simprocAttr,k]
      refine ⟨_,ref23_number c.time 6 o8, ?_⟩
      simp (maxSteps:=1000000) (disch:=omega) only [rg,gD,simprocAttr]
      (refine fin_x rfl ?_ ?_<;>simp [pack,lo,loL,V.closed,closedL,mv_closed,sV,no hf])
    · by_cases k3:c.kind=3
      · simp (maxSteps:=1000000) (disch:=omega) only [rg,gD,simprocAttr,k3]
        (refine fin_x rfl ?_ ?_<;>simp [pack,lo,loL,V.closed,closedL,mv_closed,sV,no hf])
      by_cases k10:c.kind=10
      · simp (maxSteps:=1000000) (disch:=omega) only [rg,gD,simprocAttr,k10]
        (refine fin_x rfl ?_ ?_<;>simp [pack,lo,loL,V.closed,closedL,mv_closed,sV,no hf])
      simp (maxSteps:=1000000) (disch:=omega) only [rg,gD,simprocAttr,k1,k2,k4,k6,k5,k7,k9,k8,k3,k10]
      (refine fin_x rfl ?_ ?_<;>simp [pack,lo,loL,V.closed,closedL,mv_closed,sV,no hf])
  rw [decide_eq_true g0]
  simp (maxSteps:=1000000) (disch:=omega) only [rg,gD,simprocAttr]
  refine ⟨_,ref23_six c.time, ?_⟩
  by_cases g1:0≤c.time∧c.time < 281474976710656
  case neg =>
    have hf:¬ cmdP c:=fun h => g1 ⟨h.2.2.2.1.2.2.2.2.2.1,h.2.2.2.1.2.2.2.2.2.2⟩
    rw [decide_eq_false g1]
    simp (maxSteps:=1000000) (disch:=omega) only [rg,gD,simprocAttr]
    rcases kinds c.kind with k | k | k | k | k | k | k | k | ⟨k1,k2,k4,k6,k5,k7,k9,k8⟩
    · simp (maxSteps:=1000000) (disch:=omega) only [rg,gD,simprocAttr,k]
      (refine fin_x rfl ?_ ?_<;>simp [pack,lo,loL,V.closed,closedL,mv_closed,sV,no hf])
    · simp (maxSteps:=1000000) (disch:=omega) only [rg,gD,simprocAttr,k]
      refine ⟨_,ref23_text c.key (by omega), ?_⟩
      simp (maxSteps:=1000000) (disch:=omega) only [rg,gD,simprocAttr]
      refine ⟨_,ref23_text c.name (by omega), ?_⟩
      simp (maxSteps:=1000000) (disch:=omega) only [rg,gD,simprocAttr]
      refine ⟨by omega, ?_⟩
      (refine fin_x rfl ?_ ?_<;>simp [pack,lo,loL,V.closed,closedL,mv_closed,sV,no hf])
    · simp (maxSteps:=1000000) (disch:=omega) only [rg,gD,simprocAttr,k]
      refine ⟨_,ref23_number c.token 6 o7, ?_⟩
      simp (maxSteps:=1000000) (disch:=omega) only [rg,gD,simprocAttr]
      (refine fin_x rfl ?_ ?_<;>simp [pack,lo,loL,V.closed,closedL,mv_closed,sV,no hf])
    · simp (maxSteps:=1000000) (disch:=omega) only [rg,gD,simprocAttr,k]
      refine ⟨_,ref23_number c.token 6 o7, ?_⟩
      simp (maxSteps:=1000000) (disch:=omega) only [rg,gD,simprocAttr]
      (refine fin_x rfl ?_ ?_<;>simp [pack,lo,loL,V.closed,closedL,mv_closed,sV,no hf])
    · simp (maxSteps:=1000000) (disch:=omega) only [rg,gD,simprocAttr,k]
      refine ⟨_,ref23_number c.token 6 o7, ?_⟩
      simp (maxSteps:=1000000) (disch:=omega) only [rg,gD,simprocAttr]
      refine ⟨_,ref23_text c.text (by omega), ?_⟩
      simp (maxSteps:=1000000) (disch:=omega) only [rg,gD,simprocAttr]
      refine ⟨by omega, ?_⟩
      (refine fin_x rfl ?_ ?_<;>simp [pack,lo,loL,V.closed,closedL,mv_closed,sV,no hf])
    · simp (maxSteps:=1000000) (disch:=omega) only [rg,gD,simprocAttr,k]
      refine ⟨_,ref23_text c.key (by omega), ?_⟩
      simp (maxSteps:=1000000) (disch:=omega) only [rg,gD,simprocAttr]
      (refine fin_x rfl ?_ ?_<;>simp [pack,lo,loL,V.closed,closedL,mv_closed,sV,no hf])
    · simp (maxSteps:=1000000) (disch:=omega) only [rg,gD,simprocAttr,k]
      refine ⟨_,ref23_text c.key (by omega), ?_⟩
      simp (maxSteps:=1000000) (disch:=omega) only [rg,gD,simprocAttr]
      (refine fin_x rfl ?_ ?_<;>simp [pack,lo,loL,V.closed,closedL,mv_closed,sV,no hf])
    · simp (maxSteps:=1000000) (disch:=omega) only [rg,gD,simprocAttr,k]
      refine ⟨_,ref23_number c.time 6 o8, ?_⟩
      simp (maxSteps:=1000000) (disch:=omega) only [rg,gD,simprocAttr]
      (refine fin_x rfl ?_ ?_<;>simp [pack,lo,loL,V.closed,closedL,mv_closed,sV,no hf])
    · by_cases k3:c.kind=3
      · simp (maxSteps:=1000000) (disch:=omega) only [rg,gD,simprocAttr,k3]
        (refine fin_x rfl ?_ ?_<;>simp [pack,lo,loL,V.closed,closedL,mv_closed,sV,no hf])
      by_cases k10:c.kind=10
      · simp (maxSteps:=1000000) (disch:=omega) only [rg,gD,simprocAttr,k10]
        (refine fin_x rfl ?_ ?_<;>simp [pack,lo,loL,V.closed,closedL,mv_closed,sV,no hf])
      simp (maxSteps:=1000000) (disch:=omega) only [rg,gD,simprocAttr,k1,k2,k4,k6,k5,k7,k9,k8,k3,k10]
      (refine fin_x rfl ?_ ?_<;>simp [pack,lo,loL,V.closed,closedL,mv_closed,sV,no hf])
  rw [decide_eq_true g1]
  simp (maxSteps:=1000000) (disch:=omega) only [rg,gD,simprocAttr]
  have hfit:fitP c:=⟨f0,f1,f2,g0.1,g0.2,g1.1,g1.2⟩
  rcases kinds c.kind with k | k | k | k | k | k | k | k | ⟨k1,k2,k4,k6,k5,k7,k9,k8⟩
  · have hbn:=b1 k
    simp (maxSteps:=1000000) (disch:=omega) only [rg,gD,simprocAttr,k]
    rw [k] at n1
    refine ⟨_,n1, ?_⟩
    by_cases hb:no1P c
    · rw [decide_eq_true hb]
      simp (maxSteps:=1000000) (disch:=omega) only [rg,gD,simprocAttr]
      refine ⟨_,kr, ?_⟩
      by_cases hr:refRightS c.dag=0
      · have hdl:=right_fit hr
        have hl:(dagB c.dag).length≤1000:=by
          have h1:=tsksB_len (l:=c.dag.tasks) (N:=10) hdl.2.2.2.2
          have h2:=textS_len c.dag.name
          have h3:=putS_len1 c.dag.tasks.length
          simp only [dagB,List.length_append]; omega
        have kp:=ref16_put c.dag (by omega) (fun t ht => Nat.le_trans (hdl.2.2.2.2 t ht) (by omega)) (by omega) o6
        unfold dagV tasksV at kp
        have hP:cmdP c:=⟨by omega,by omega,hbn.2 hb,hfit,fun _ => hr⟩
        simp (maxSteps:=1000000) (disch:=omega) only [rg,gD,simprocAttr,hr]
        refine ⟨_,kp, ?_⟩
        simp (maxSteps:=1000000) (disch:=omega) only [rg,gD,simprocAttr]
        rw [k] at hk1
        refine ⟨_,ref23_number 1 1 (by omega), ?_⟩
        simp (maxSteps:=1000000) (disch:=omega) only [rg,gD,simprocAttr]
        refine ⟨by (try simp only [List.length_append,List.length_nil]); omega, ?_⟩
        refine ⟨_,ref_seal _ (by (try simp only [List.length_append,List.length_nil]); omega), ?_⟩
        simp (maxSteps:=1000000) (disch:=omega) only [rg,gD,simprocAttr]
        (refine fin_x rfl ?_ ?_<;>simp [pack,lo,loL,V.closed,closedL,mv_closed,sV,yes hP,cmdBody,k])
      · simp (maxSteps:=1000000) (disch:=omega) only [rg,gD,simprocAttr,hr]
        (refine fin_x rfl ?_ ?_<;>simp [pack,lo,loL,V.closed,closedL,mv_closed,sV,no (fun h => hr (h.2.2.2.2 k))])
    · rw [decide_eq_false hb]
      simp (maxSteps:=1000000) (disch:=omega) only [rg,gD,simprocAttr]
      (refine fin_x rfl ?_ ?_<;>simp [pack,lo,loL,V.closed,closedL,mv_closed,sV,no (fun h => hb (hbn.1 h.2.2.1))])
  · have hbn:=b2 k
    simp (maxSteps:=1000000) (disch:=omega) only [rg,gD,simprocAttr,k]
    rw [k] at n2
    refine ⟨_,n2, ?_⟩
    by_cases hb:no2P c
    · rw [decide_eq_true hb]
      have hP:cmdP c:=⟨by omega,by omega,hbn.2 hb,hfit,fun h => by omega⟩
      rw [k] at hk1
      simp (maxSteps:=1000000) (disch:=omega) only [rg,gD,simprocAttr]
      refine ⟨_,ref23_text c.key (by omega), ?_⟩
      simp (maxSteps:=1000000) (disch:=omega) only [rg,gD,simprocAttr]
      refine ⟨_,ref23_text c.name (by omega), ?_⟩
      simp (maxSteps:=1000000) (disch:=omega) only [rg,gD,simprocAttr]
      refine ⟨by omega, ?_⟩
      refine ⟨_,ref23_number 2 1 (by omega), ?_⟩
      simp (maxSteps:=1000000) (disch:=omega) only [rg,gD,simprocAttr]
      refine ⟨by (try simp only [List.length_append,List.length_nil]); omega, ?_⟩
      refine ⟨_,ref_seal _ (by (try simp only [List.length_append,List.length_nil]); omega), ?_⟩
      simp (maxSteps:=1000000) (disch:=omega) only [rg,gD,simprocAttr]
      (refine fin_x rfl ?_ ?_<;>simp [pack,lo,loL,V.closed,closedL,mv_closed,sV,yes hP,cmdBody,k])
    · rw [decide_eq_false hb]
      simp (maxSteps:=1000000) (disch:=omega) only [rg,gD,simprocAttr]
      refine ⟨_,ref23_text c.key (by omega), ?_⟩
      simp (maxSteps:=1000000) (disch:=omega) only [rg,gD,simprocAttr]
      refine ⟨_,ref23_text c.name (by omega), ?_⟩
      simp (maxSteps:=1000000) (disch:=omega) only [rg,gD,simprocAttr]
      refine ⟨by omega, ?_⟩
      (refine fin_x rfl ?_ ?_<;>simp [pack,lo,loL,V.closed,closedL,mv_closed,sV,no (fun h => hb (hbn.1 h.2.2.1))])
  · have hbn:=b46 (by omega)
    simp (maxSteps:=1000000) (disch:=omega) only [rg,gD,simprocAttr,k]
    rw [k] at n46
    refine ⟨_,n46, ?_⟩
    by_cases hb:no46P c
    · rw [decide_eq_true hb]
      have hP:cmdP c:=⟨by omega,by omega,hbn.2 hb,hfit,fun h => by omega⟩
      rw [k] at hk1
      simp (maxSteps:=1000000) (disch:=omega) only [rg,gD,simprocAttr]
      refine ⟨_,ref23_number c.token 6 o7, ?_⟩
      simp (maxSteps:=1000000) (disch:=omega) only [rg,gD,simprocAttr]
      refine ⟨_,ref23_number 4 1 (by omega), ?_⟩
      simp (maxSteps:=1000000) (disch:=omega) only [rg,gD,simprocAttr]
      refine ⟨by (try simp only [List.length_append,List.length_nil]); omega, ?_⟩
      refine ⟨_,ref_seal _ (by (try simp only [List.length_append,List.length_nil]); omega), ?_⟩
      simp (maxSteps:=1000000) (disch:=omega) only [rg,gD,simprocAttr]
      (refine fin_x rfl ?_ ?_<;>simp [pack,lo,loL,V.closed,closedL,mv_closed,sV,yes hP,cmdBody,k])
    · rw [decide_eq_false hb]
      simp (maxSteps:=1000000) (disch:=omega) only [rg,gD,simprocAttr]
      refine ⟨_,ref23_number c.token 6 o7, ?_⟩
      simp (maxSteps:=1000000) (disch:=omega) only [rg,gD,simprocAttr]
      (refine fin_x rfl ?_ ?_<;>simp [pack,lo,loL,V.closed,closedL,mv_closed,sV,no (fun h => hb (hbn.1 h.2.2.1))])
  · have hbn:=b46 (by omega)
    simp (maxSteps:=1000000) (disch:=omega) only [rg,gD,simprocAttr,k]
    rw [k] at n46
    refine ⟨_,n46, ?_⟩
    by_cases hb:no46P c
    · rw [decide_eq_true hb]
      have hP:cmdP c:=⟨by omega,by omega,hbn.2 hb,hfit,fun h => by omega⟩
      rw [k] at hk1
      simp (maxSteps:=1000000) (disch:=omega) only [rg,gD,simprocAttr]
      refine ⟨_,ref23_number c.token 6 o7, ?_⟩
      simp (maxSteps:=1000000) (disch:=omega) only [rg,gD,simprocAttr]
      refine ⟨_,ref23_number 6 1 (by omega), ?_⟩
      simp (maxSteps:=1000000) (disch:=omega) only [rg,gD,simprocAttr]
      refine ⟨by (try simp only [List.length_append,List.length_nil]); omega, ?_⟩
      refine ⟨_,ref_seal _ (by (try simp only [List.length_append,List.length_nil]); omega), ?_⟩
      simp (maxSteps:=1000000) (disch:=omega) only [rg,gD,simprocAttr]
      (refine fin_x rfl ?_ ?_<;>simp [pack,lo,loL,V.closed,closedL,mv_closed,sV,yes hP,cmdBody,k])
    · rw [decide_eq_false hb]
      simp (maxSteps:=1000000) (disch:=omega) only [rg,gD,simprocAttr]
      refine ⟨_,ref23_number c.token 6 o7, ?_⟩
      simp (maxSteps:=1000000) (disch:=omega) only [rg,gD,simprocAttr]
      (refine fin_x rfl ?_ ?_<;>simp [pack,lo,loL,V.closed,closedL,mv_closed,sV,no (fun h => hb (hbn.1 h.2.2.1))])
  · have hbn:=b5 k
    simp (maxSteps:=1000000) (disch:=omega) only [rg,gD,simprocAttr,k]
    rw [k] at n5
    refine ⟨_,n5, ?_⟩
    by_cases hb:no5P c
    · rw [decide_eq_true hb]
      have hP:cmdP c:=⟨by omega,by omega,hbn.2 hb,hfit,fun h => by omega⟩
      rw [k] at hk1
      simp (maxSteps:=1000000) (disch:=omega) only [rg,gD,simprocAttr]
      refine ⟨_,ref23_number c.token 6 o7, ?_⟩
      simp (maxSteps:=1000000) (disch:=omega) only [rg,gD,simprocAttr]
      refine ⟨_,ref23_text c.text (by omega), ?_⟩
      simp (maxSteps:=1000000) (disch:=omega) only [rg,gD,simprocAttr]
      refine ⟨by omega, ?_⟩
      refine ⟨_,ref23_number 5 1 (by omega), ?_⟩
      simp (maxSteps:=1000000) (disch:=omega) only [rg,gD,simprocAttr]
      refine ⟨by (try simp only [List.length_append,List.length_nil]); omega, ?_⟩
      refine ⟨_,ref_seal _ (by (try simp only [List.length_append,List.length_nil]); omega), ?_⟩
      simp (maxSteps:=1000000) (disch:=omega) only [rg,gD,simprocAttr]
      (refine fin_x rfl ?_ ?_<;>simp [pack,lo,loL,V.closed,closedL,mv_closed,sV,yes hP,cmdBody,k])
    · rw [decide_eq_false hb]
      simp (maxSteps:=1000000) (disch:=omega) only [rg,gD,simprocAttr]
      refine ⟨_,ref23_number c.token 6 o7, ?_⟩
      simp (maxSteps:=1000000) (disch:=omega) only [rg,gD,simprocAttr]
      refine ⟨_,ref23_text c.text (by omega), ?_⟩
      simp (maxSteps:=1000000) (disch:=omega) only [rg,gD,simprocAttr]
      refine ⟨by omega, ?_⟩
      (refine fin_x rfl ?_ ?_<;>simp [pack,lo,loL,V.closed,closedL,mv_closed,sV,no (fun h => hb (hbn.1 h.2.2.1))])
  · have hbn:=b79 (by omega)
    simp (maxSteps:=1000000) (disch:=omega) only [rg,gD,simprocAttr,k]
    rw [k] at n79
    refine ⟨_,n79, ?_⟩
    by_cases hb:no79P c
    · rw [decide_eq_true hb]
      have hP:cmdP c:=⟨by omega,by omega,hbn.2 hb,hfit,fun h => by omega⟩
      rw [k] at hk1
      simp (maxSteps:=1000000) (disch:=omega) only [rg,gD,simprocAttr]
      refine ⟨_,ref23_text c.key (by omega), ?_⟩
      simp (maxSteps:=1000000) (disch:=omega) only [rg,gD,simprocAttr]
      refine ⟨_,ref23_number 7 1 (by omega), ?_⟩
      simp (maxSteps:=1000000) (disch:=omega) only [rg,gD,simprocAttr]
      refine ⟨by (try simp only [List.length_append,List.length_nil]); omega, ?_⟩
      refine ⟨_,ref_seal _ (by (try simp only [List.length_append,List.length_nil]); omega), ?_⟩
      simp (maxSteps:=1000000) (disch:=omega) only [rg,gD,simprocAttr]
      (refine fin_x rfl ?_ ?_<;>simp [pack,lo,loL,V.closed,closedL,mv_closed,sV,yes hP,cmdBody,k])
    · rw [decide_eq_false hb]
      simp (maxSteps:=1000000) (disch:=omega) only [rg,gD,simprocAttr]
      refine ⟨_,ref23_text c.key (by omega), ?_⟩
      simp (maxSteps:=1000000) (disch:=omega) only [rg,gD,simprocAttr]
      (refine fin_x rfl ?_ ?_<;>simp [pack,lo,loL,V.closed,closedL,mv_closed,sV,no (fun h => hb (hbn.1 h.2.2.1))])
  · have hbn:=b79 (by omega)
    simp (maxSteps:=1000000) (disch:=omega) only [rg,gD,simprocAttr,k]
    rw [k] at n79
    refine ⟨_,n79, ?_⟩
    by_cases hb:no79P c
    · rw [decide_eq_true hb]
      have hP:cmdP c:=⟨by omega,by omega,hbn.2 hb,hfit,fun h => by omega⟩
      rw [k] at hk1
      simp (maxSteps:=1000000) (disch:=omega) only [rg,gD,simprocAttr]
      refine ⟨_,ref23_text c.key (by omega), ?_⟩
      simp (maxSteps:=1000000) (disch:=omega) only [rg,gD,simprocAttr]
      refine ⟨_,ref23_number 9 1 (by omega), ?_⟩
      simp (maxSteps:=1000000) (disch:=omega) only [rg,gD,simprocAttr]
      refine ⟨by (try simp only [List.length_append,List.length_nil]); omega, ?_⟩
      refine ⟨_,ref_seal _ (by (try simp only [List.length_append,List.length_nil]); omega), ?_⟩
      simp (maxSteps:=1000000) (disch:=omega) only [rg,gD,simprocAttr]
      (refine fin_x rfl ?_ ?_<;>simp [pack,lo,loL,V.closed,closedL,mv_closed,sV,yes hP,cmdBody,k])
    · rw [decide_eq_false hb]
      simp (maxSteps:=1000000) (disch:=omega) only [rg,gD,simprocAttr]
      refine ⟨_,ref23_text c.key (by omega), ?_⟩
      simp (maxSteps:=1000000) (disch:=omega) only [rg,gD,simprocAttr]
      (refine fin_x rfl ?_ ?_<;>simp [pack,lo,loL,V.closed,closedL,mv_closed,sV,no (fun h => hb (hbn.1 h.2.2.1))])
  · have hbn:=b8 k
    simp (maxSteps:=1000000) (disch:=omega) only [rg,gD,simprocAttr,k]
    rw [k] at n8
    refine ⟨_,n8, ?_⟩
    by_cases hb:no8P c
    · rw [decide_eq_true hb]
      have hP:cmdP c:=⟨by omega,by omega,hbn.2 hb,hfit,fun h => by omega⟩
      rw [k] at hk1
      simp (maxSteps:=1000000) (disch:=omega) only [rg,gD,simprocAttr]
      refine ⟨_,ref23_number c.time 6 o8, ?_⟩
      simp (maxSteps:=1000000) (disch:=omega) only [rg,gD,simprocAttr]
      refine ⟨_,ref23_number 8 1 (by omega), ?_⟩
      simp (maxSteps:=1000000) (disch:=omega) only [rg,gD,simprocAttr]
      refine ⟨by (try simp only [List.length_append,List.length_nil]); omega, ?_⟩
      refine ⟨_,ref_seal _ (by (try simp only [List.length_append,List.length_nil]); omega), ?_⟩
      simp (maxSteps:=1000000) (disch:=omega) only [rg,gD,simprocAttr]
      (refine fin_x rfl ?_ ?_<;>simp [pack,lo,loL,V.closed,closedL,mv_closed,sV,yes hP,cmdBody,k])
    · rw [decide_eq_false hb]
      simp (maxSteps:=1000000) (disch:=omega) only [rg,gD,simprocAttr]
      refine ⟨_,ref23_number c.time 6 o8, ?_⟩
      simp (maxSteps:=1000000) (disch:=omega) only [rg,gD,simprocAttr]
      (refine fin_x rfl ?_ ?_<;>simp [pack,lo,loL,V.closed,closedL,mv_closed,sV,no (fun h => hb (hbn.1 h.2.2.1))])
  · by_cases kx3:c.kind=3
    · have k:=kx3
      have hbn:=b0 (by omega)
      simp (maxSteps:=1000000) (disch:=omega) only [rg,gD,simprocAttr,k]
      rw [k] at n0
      refine ⟨_,n0, ?_⟩
      by_cases hb:no0P c
      · rw [decide_eq_true hb]
        have hP:cmdP c:=⟨by omega,by omega,hbn.2 hb,hfit,fun h => by omega⟩
        rw [k] at hk1
        simp (maxSteps:=1000000) (disch:=omega) only [rg,gD,simprocAttr]
        refine ⟨_,ref23_number 3 1 (by omega), ?_⟩
        simp (maxSteps:=1000000) (disch:=omega) only [rg,gD,simprocAttr]
        refine ⟨by (try simp only [List.length_append,List.length_nil]); omega, ?_⟩
        refine ⟨_,ref_seal _ (by (try simp only [List.length_append,List.length_nil]); omega), ?_⟩
        simp (maxSteps:=1000000) (disch:=omega) only [rg,gD,simprocAttr]
        (refine fin_x rfl ?_ ?_<;>simp [pack,lo,loL,V.closed,closedL,mv_closed,sV,yes hP,cmdBody,k])
      · rw [decide_eq_false hb]
        simp (maxSteps:=1000000) (disch:=omega) only [rg,gD,simprocAttr]
        (refine fin_x rfl ?_ ?_<;>simp [pack,lo,loL,V.closed,closedL,mv_closed,sV,no (fun h => hb (hbn.1 h.2.2.1))])
    by_cases kx10:c.kind=10
    · have k:=kx10
      have hbn:=b0 (by omega)
      simp (maxSteps:=1000000) (disch:=omega) only [rg,gD,simprocAttr,k]
      rw [k] at n0
      refine ⟨_,n0, ?_⟩
      by_cases hb:no0P c
      · rw [decide_eq_true hb]
        have hP:cmdP c:=⟨by omega,by omega,hbn.2 hb,hfit,fun h => by omega⟩
        rw [k] at hk1
        simp (maxSteps:=1000000) (disch:=omega) only [rg,gD,simprocAttr]
        refine ⟨_,ref23_number 10 1 (by omega), ?_⟩
        simp (maxSteps:=1000000) (disch:=omega) only [rg,gD,simprocAttr]
        refine ⟨by (try simp only [List.length_append,List.length_nil]); omega, ?_⟩
        refine ⟨_,ref_seal _ (by (try simp only [List.length_append,List.length_nil]); omega), ?_⟩
        simp (maxSteps:=1000000) (disch:=omega) only [rg,gD,simprocAttr]
        (refine fin_x rfl ?_ ?_<;>simp [pack,lo,loL,V.closed,closedL,mv_closed,sV,yes hP,cmdBody,k])
      · rw [decide_eq_false hb]
        simp (maxSteps:=1000000) (disch:=omega) only [rg,gD,simprocAttr]
        (refine fin_x rfl ?_ ?_<;>simp [pack,lo,loL,V.closed,closedL,mv_closed,sV,no (fun h => hb (hbn.1 h.2.2.1))])
    simp (maxSteps:=1000000) (disch:=omega) only [rg,gD,simprocAttr,k1,k2,k4,k6,k5,k7,k9,k8,kx3,kx10]
    (refine fin_x rfl ?_ ?_<;>simp [pack,lo,loL,V.closed,closedL,mv_closed,sV,no (fun h => by have:=h.1; have:=h.2.1; omega)])
end Go.Proofs.YtnglmdheiabdcaaGreatDoor.Ev
