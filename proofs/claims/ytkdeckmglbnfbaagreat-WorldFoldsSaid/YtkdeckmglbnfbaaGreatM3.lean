/-
  Part 3 of what the proof of the statement WorldFolds leans on: the evaluator, the functions in compact form, and what they answer.
-/
import Derived.Test.YtkdeckmglbnfbaaGreatM2
import Derived.Test.YtkdeckmglbnfbaaGreatProg
import Derived.KernelRfl
set_option linter.unusedSimpArgs false
set_option linter.unusedVariables false
set_option maxRecDepth 10000
namespace Go.Proofs.YtkdeckmglbnfbaaGreat.Ev
open Go
def c223:C :=
  (.seq
 (.reg false [p (.mov (.k (.int .i64 0)))] [(0,.v 0),(1,.v 1)])
 (.seq
 (.seq
 (.reg false [p (.mov (.v 0)),
 p (.len false (.r 0)),
 p (.mov (.k (.int .i64 0)))] [(0,.v 0),(1,.v 1),(7,.r 1),(8,.r 0)])
 (.block 0
 (.loop
 (.seq
 (.reg false [p (.bin .lss (.v 8) (.v 7))] [(0,.v 0),(1,.v 1),(7,.v 7),(8,.v 8),(9,.r 0)])
 (.seq
 (.cond (.v 9)
 .skip
 (.exit 0))
 (.seq
 (.block 1
 (.seq
 (.reg false [p (.mov (.v 8)),
 p (.mov (.r 0))] [(0,.v 0),(1,.v 1),(5,.r 0),(7,.v 7),(8,.v 8)])
 (.seq
 (.reg false [p (.mov (.v 1)),
 p (.mov (.v 0)),
 p (.mov (.v 5)),
 p (.iad 1 (.r 1) (.r 0)),
 p (.load (none) (.r 0)),
 p (.call false (.r 4) [.r 0])] [(0,.v 0),(1,.v 1),(5,.v 5),(7,.v 7),(8,.v 8),(16,.r 0)])
 (.cond (.v 16)
 (.seq
 (.reg false [p (.mov (.v 5)),
 p (.mov (.r 0))] [(4,.r 0)])
 .ret)
 .skip))))
 (.reg false [p (.bin .add (.v 8) (.k (.int .i64 1))),
 p (.mov (.r 0))] [(0,.v 0),(1,.v 1),(7,.v 7),(8,.r 0)])))))))
 (.frz
 (.seq
 (.reg false [p (.mov (.k (.int .i64 (-1))))] [(4,.r 0)])
 .ret))))
def r223:List RV:=[.t 4]
theorem chk223:Chk Tryz.prog Tryz.f223 c223 r223:=⟨_,rfl,by kernel_rfl,by kernel_rfl⟩
theorem ena223:EnA Tryz.prog 223 19 c223 r223:=a2h (by kernel_rfl) Tryz.func223 (by kernel_rfl) chk223
def c175:C :=
  (.seq
 (.reg false [p (.mov (.k (.bool false)))] [(0,.v 0),(1,.v 1)])
 (.seq
 (.reg false [p (.mov (.v 0)),
 p (.mov (.v 1)),
 p (.call false (.k (.fn 223 [] [])) [.r 1,.r 0]),
 p (.bin .geq (.r 0) (.k (.int .i64 0))),
 p (.mov (.r 0))] [(4,.r 0)])
 .ret))
def r175:List RV:=[.t 4]
theorem chk175:Chk Tryz.prog Tryz.f175 c175 r175:=⟨_,rfl,by kernel_rfl,by kernel_rfl⟩
theorem ena175:EnA Tryz.prog 175 9 c175 r175:=a2h (by kernel_rfl) Tryz.func175 (by kernel_rfl) chk175
def c172:C :=
  (.seq
 (.reg false [p (.mov (.k (.int .i64 0)))] [(0,.v 0),(1,.v 1)])
 (.seq
 (.seq
 (.reg false [p (.mov (.v 0)),
 p (.len false (.r 0)),
 p (.mov (.k (.int .i64 0)))] [(0,.v 0),(1,.v 1),(7,.r 1),(8,.r 0)])
 (.block 0
 (.loop
 (.seq
 (.reg false [p (.bin .lss (.v 8) (.v 7))] [(0,.v 0),(1,.v 1),(7,.v 7),(8,.v 8),(9,.r 0)])
 (.seq
 (.cond (.v 9)
 .skip
 (.exit 0))
 (.seq
 (.block 1
 (.seq
 (.reg false [p (.mov (.v 8)),
 p (.mov (.r 0))] [(0,.v 0),(1,.v 1),(5,.r 0),(7,.v 7),(8,.v 8)])
 (.seq
 (.reg false [p (.mov (.v 1)),
 p (.mov (.v 0)),
 p (.mov (.v 5)),
 p (.iad 4 (.r 1) (.r 0)),
 p (.load (some 4) (.r 0)),
 p (.call false (.r 4) [.r 0])] [(0,.v 0),(1,.v 1),(5,.v 5),(7,.v 7),(8,.v 8),(16,.r 0)])
 (.cond (.v 16)
 (.seq
 (.reg false [p (.mov (.v 5)),
 p (.mov (.r 0))] [(4,.r 0)])
 .ret)
 .skip))))
 (.reg false [p (.bin .add (.v 8) (.k (.int .i64 1))),
 p (.mov (.r 0))] [(0,.v 0),(1,.v 1),(7,.v 7),(8,.r 0)])))))))
 (.frz
 (.seq
 (.reg false [p (.mov (.k (.int .i64 (-1))))] [(4,.r 0)])
 .ret))))
def r172:List RV:=[.t 4]
theorem chk172:Chk Tryz.prog Tryz.f172 c172 r172:=⟨_,rfl,by kernel_rfl,by kernel_rfl⟩
theorem ena172:EnA Tryz.prog 172 19 c172 r172:=a2h (by kernel_rfl) Tryz.func172 (by kernel_rfl) chk172
def c114:C :=
  (.seq
 (.reg false [p (.mov (.k (.bool false)))] [(0,.v 0),(1,.v 1)])
 (.seq
 (.reg false [p (.mov (.v 0)),
 p (.mov (.v 1)),
 p (.call false (.k (.fn 172 [] [])) [.r 1,.r 0]),
 p (.bin .geq (.r 0) (.k (.int .i64 0))),
 p (.mov (.r 0))] [(4,.r 0)])
 .ret))
def r114:List RV:=[.t 4]
theorem chk114:Chk Tryz.prog Tryz.f114 c114 r114:=⟨_,rfl,by kernel_rfl,by kernel_rfl⟩
theorem ena114:EnA Tryz.prog 114 9 c114 r114:=a2h (by kernel_rfl) Tryz.func114 (by kernel_rfl) chk114
def c116:C :=
  (.seq
 (.reg false [p (.box 4 (.v 0)),
 p (.mov (.k (.bool false)))] [(1,.v 1),(2,.r 1)])
 (.seq
 (.reg false [p (.mov (.k (.int .i64 (-1))))] [(1,.v 1),(2,.v 2),(5,.r 0)])
 (.seq
 (.seq
 (.reg false [p (.fad 0 (.v 2)),
 p (.load (none) (.r 0)),
 p (.len false (.r 0)),
 p (.mov (.k (.int .i64 0)))] [(1,.v 1),(2,.v 2),(5,.v 5),(9,.r 2),(10,.r 1),(11,.r 0)])
 (.block 0
 (.loop
 (.seq
 (.reg false [p (.bin .lss (.v 11) (.v 10))] [(1,.v 1),(2,.v 2),(5,.v 5),(9,.v 9),(10,.v 10),(11,.v 11),(12,.r 0)])
 (.seq
 (.cond (.v 12)
 .skip
 (.exit 0))
 (.seq
 (.block 1
 (.seq
 (.reg false [p (.iad 1 (.v 9) (.v 11)),
 p (.load (none) (.r 0)),
 p (.mov (.r 0))] [(1,.v 1),(2,.v 2),(5,.v 5),(7,.r 0),(9,.v 9),(10,.v 10),(11,.v 11)])
 (.seq
 (.seq
 (.reg false [p (.mov (.v 7)),
 p (.mov (.v 5)),
 p (.bin .leq (.r 1) (.r 0)),
 p (.mov (.r 0)),
 ⟨.mov (.v 7),some (0,false),[]⟩,
 ⟨.mov (.v 1),some (1,false),[]⟩,
 ⟨.bin .geq (.r 1) (.r 0),some (2,false),[]⟩,
 p (.pick (.r 3) (.k (.bool true)) (.r 0))] [(1,.v 1),(2,.v 2),(7,.v 7),(9,.v 9),(10,.v 10),(11,.v 11),(22,.r 0)])
 (.cond (.v 22)
 (.seq
 (.reg false [p (.mov (.k (.bool false)))] [(4,.r 0)])
 .ret)
 .skip))
 (.reg false [p (.mov (.v 7)),
 p (.mov (.r 0))] [(1,.v 1),(2,.v 2),(5,.r 0),(9,.v 9),(10,.v 10),(11,.v 11)]))))
 (.reg false [p (.bin .add (.v 11) (.k (.int .i64 1))),
 p (.mov (.r 0))] [(1,.v 1),(2,.v 2),(5,.v 5),(9,.v 9),(10,.v 10),(11,.r 0)])))))))
 (.frz
 (.seq
 (.reg false [p (.fad 1 (.v 2)),
 p (.load (none) (.r 0)),
 p (.bin .geq (.r 0) (.k (.int .i64 1))),
 p (.mov (.r 0)),
 ⟨.fad 1 (.v 2),some (0,true),[]⟩,
 ⟨.load (none) (.r 0),some (1,true),[]⟩,
 ⟨.bin .leq (.r 0) (.k (.int .i64 8)),some (2,true),[]⟩,
 p (.pick (.r 3) (.r 0) (.k (.bool false))),
 p (.mov (.r 0)),
 ⟨.fad 2 (.v 2),some (0,true),[]⟩,
 ⟨.load (none) (.r 0),some (1,true),[]⟩,
 ⟨.bin .geq (.r 0) (.k (.int .i64 0)),some (2,true),[]⟩,
 p (.pick (.r 3) (.r 0) (.k (.bool false))),
 p (.mov (.r 0)),
 ⟨.fad 2 (.v 2),some (0,true),[]⟩,
 ⟨.load (none) (.r 0),some (1,true),[]⟩,
 ⟨.bin .leq (.r 0) (.k (.int .i64 1048576)),some (2,true),[]⟩,
 p (.pick (.r 3) (.r 0) (.k (.bool false))),
 p (.mov (.r 0)),
 ⟨.fad 3 (.v 2),some (0,true),[]⟩,
 ⟨.load (none) (.r 0),some (1,true),[]⟩,
 ⟨.bin .geq (.r 0) (.k (.int .i64 1)),some (2,true),[]⟩,
 p (.pick (.r 3) (.r 0) (.k (.bool false))),
 p (.mov (.r 0)),
 ⟨.fad 3 (.v 2),some (0,true),[]⟩,
 ⟨.load (none) (.r 0),some (1,true),[]⟩,
 ⟨.bin .leq (.r 0) (.k (.int .i64 1048576)),some (2,true),[]⟩,
 p (.pick (.r 3) (.r 0) (.k (.bool false))),
 p (.mov (.r 0))] [(4,.r 0)])
 .ret)))))
def r116:List RV:=[.t 4]
theorem en116:EnP Tryz.prog 116 53 c116 r116:=a0x (by kernel_rfl) Tryz.func116 (by kernel_rfl) ⟨_,rfl,by kernel_rfl,by kernel_rfl⟩
def c222:C :=
  (.seq
 (.reg false [p (.mov (.k (.bool false)))] [(0,.v 0),(1,.v 1)])
 (.seq
 (.reg false [p (.load (none) (.v 1)),
 p (.mov (.v 0)),
 p (.iad 1 (.r 1) (.r 0)),
 p (.load (none) (.r 0)),
 p (.un .not (.r 0)),
 p (.mov (.r 0))] [(3,.r 0)])
 .ret))
def r222:List RV:=[.t 3]
theorem chk222:Chk Tryz.prog Tryz.f222 c222 r222:=⟨_,rfl,by kernel_rfl,by kernel_rfl⟩
theorem ena222:EnA Tryz.prog 222 9 c222 r222:=a2h (by kernel_rfl) Tryz.func222 (by kernel_rfl) chk222
def c173:C :=
  (.seq
 (.reg false [p (.box 1 (.v 1)),
 p (.mov (.k (.fsl .nil 1 [])))] [(0,.v 0),(3,.r 1)])
 (.seq
 (.reg false [p (.mkf 222 [] [.v 3]),
 p (.mov (.r 0))] [(0,.v 0),(5,.r 0)])
 (.seq
 (.reg false [p (.mov (.k (.fsl .nil 1 [])))] [(0,.v 0),(5,.v 5),(6,.r 0)])
 (.seq
 (.seq
 (.reg false [p (.mov (.v 0)),
 p (.len false (.r 0)),
 p (.mov (.k (.int .i64 0)))] [(5,.v 5),(6,.v 6),(10,.r 2),(11,.r 1),(12,.r 0)])
 (.block 0
 (.loop
 (.seq
 (.reg false [p (.bin .lss (.v 12) (.v 11))] [(5,.v 5),(6,.v 6),(10,.v 10),(11,.v 11),(12,.v 12),(13,.r 0)])
 (.seq
 (.cond (.v 13)
 .skip
 (.exit 0))
 (.seq
 (.block 1
 (.seq
 (.reg false [p (.mov (.v 12)),
 p (.iad 4 (.v 10) (.v 12)),
 p (.load (some 4) (.r 0)),
 p (.alloc 4 (.agg [.fsl .nil 1 [],.int .i64 0,.int .i64 0,.int .i64 0])),
 p (.mov (.r 3)),
 p (.store (some 4) (.r 1) (.r 2))] [(5,.v 5),(6,.v 6),(7,.r 1),(8,.r 2),(10,.v 10),(11,.v 11),(12,.v 12)])
 (.seq
 (.reg false [p (.mov (.v 5)),
 p (.mov (.v 7)),
 p (.call false (.r 1) [.r 0]),
 p (.mov (.r 0)),
 ⟨.fad 0 (.v 8),some (0,true),[]⟩,
 ⟨.load (none) (.r 0),some (1,true),[]⟩,
 ⟨.mov (.v 5),some (2,true),[]⟩,
 ⟨.call false (.k (.fn 175 [] [])) [.r 1,.r 0],some (3,true),[]⟩,
 ⟨.un .not (.r 0),some (4,true),[]⟩,
 p (.pick (.r 5) (.r 0) (.k (.bool false)))] [(5,.v 5),(6,.v 6),(7,.v 7),(10,.v 10),(11,.v 11),(12,.v 12),(26,.r 0)])
 (.cond (.v 26)
 (.reg false [p (.mov (.v 6)),
 p (.mov (.v 7)),
 p (.bsl 1 [.r 0]),
 p (.app 1 8 (.r 2) (.r 0)),
 p (.mov (.r 0))] [(5,.v 5),(6,.r 0),(10,.v 10),(11,.v 11),(12,.v 12)])
 .skip))))
 (.reg false [p (.bin .add (.v 12) (.k (.int .i64 1))),
 p (.mov (.r 0))] [(5,.v 5),(6,.v 6),(10,.v 10),(11,.v 11),(12,.r 0)])))))))
 (.frz
 (.seq
 (.reg false [p (.mov (.v 6)),
 p (.mov (.r 0))] [(4,.r 0)])
 .ret))))))
def r173:List RV:=[.t 4]
theorem chk173:Chk Tryz.prog Tryz.f173 c173 r173:=⟨_,rfl,by kernel_rfl,by kernel_rfl⟩
theorem ena173:EnA Tryz.prog 173 33 c173 r173:=a2h (by kernel_rfl) Tryz.func173 (by kernel_rfl) chk173
def c117:C :=
  (.seq
 (.reg false [p (.mov (.k (.fsl .nil 1 [])))] [(0,.v 0)])
 (.seq
 (.reg false [p (.mov (.v 0)),
 p (.len false (.r 0)),
 p (.mks 1 1 (.bool false) (.r 0)),
 p (.mov (.r 0))] [(0,.v 0),(3,.r 0)])
 (.seq
 (.reg false [p (.mov (.k (.fsl .nil 1 [])))] [(0,.v 0),(3,.v 3),(4,.r 0)])
 (.block 0
 (.loop
 (.block 1
 (.seq
 (.reg false [p (.mov (.v 0)),
 p (.mov (.v 3)),
 p (.call false (.k (.fn 173 [] [])) [.r 1,.r 0]),
 p (.mov (.r 0))] [(0,.v 0),(3,.v 3),(4,.v 4),(5,.r 0)])
 (.seq
 (.seq
 (.reg false [p (.mov (.v 5)),
 p (.len false (.r 0)),
 p (.bin .eql (.r 0) (.k (.int .i64 0)))] [(0,.v 0),(3,.v 3),(4,.v 4),(5,.v 5),(14,.r 0)])
 (.cond (.v 14)
 (.seq
 (.reg false [p (.mov (.v 4)),
 p (.mov (.r 0))] [(2,.r 0)])
 .ret)
 .skip))
 (.seq
 (.reg false [p (.mov (.v 3)),
 p (.mov (.v 5)),
 p (.iad 1 (.r 0) (.k (.int .i64 0))),
 p (.load (none) (.r 0)),
 p (.iad 1 (.r 3) (.r 0)),
 p (.store (none) (.r 0) (.k (.bool true)))] [(0,.v 0),(3,.v 3),(4,.v 4),(5,.v 5)])
 (.reg false [p (.mov (.v 4)),
 p (.mov (.v 5)),
 p (.iad 1 (.r 0) (.k (.int .i64 0))),
 p (.load (none) (.r 0)),
 p (.bsl 1 [.r 0]),
 p (.app 1 8 (.r 4) (.r 0)),
 p (.mov (.r 0))] [(0,.v 0),(3,.v 3),(4,.r 0)]))))))))))
def r117:List RV:=[.t 2]
theorem en117:EnP Tryz.prog 117 27 c117 r117:=a0x (by kernel_rfl) Tryz.func117 (by kernel_rfl) ⟨_,rfl,by kernel_rfl,by kernel_rfl⟩
def c115:C :=
  (.seq
 (.reg false [p (.box 4 (.v 0)),
 p (.mov (.k (.bool false)))] [(1,.v 1),(2,.r 1)])
 (.seq
 (.reg false [p (.load (some 4) (.v 2)),
 p (.load (none) (.v 1)),
 p (.call true (.k (.fn 116 [] [])) [.r 1,.r 0]),
 p (.un .not (.r 0)),
 p (.mov (.r 0))] [(3,.r 0)])
 .ret))
def r115:List RV:=[.t 3]
theorem chk115:Chk Tryz.prog Tryz.f115 c115 r115:=⟨_,rfl,by kernel_rfl,by kernel_rfl⟩
theorem ena115:EnA Tryz.prog 115 8 c115 r115:=a2h (by kernel_rfl) Tryz.func115 (by kernel_rfl) chk115
def c54:C :=
  (.seq
 (.reg false [p (.box 2 (.v 0)),
 p (.mov (.k (.int .i64 0)))] [(1,.r 1)])
 (.seq
 (.reg false [p (.fad 1 (.v 1)),
 p (.load (none) (.r 0)),
 p (.len false (.r 0)),
 p (.alloc 1 (.int .i64 0)),
 p (.store (none) (.r 0) (.r 1))] [(1,.v 1),(3,.r 1)])
 (.seq
 (.block 0
 (.seq
 (.reg false [p (.load (none) (.v 3)),
 p (.bin .gtr (.r 0) (.k (.int .i64 10))),
 p (.mov (.r 0))] [(1,.v 1),(3,.v 3),(7,.r 0)])
 (.cond (.v 7)
 (.seq
 (.reg false [p (.mov (.k (.int .i64 2)))] [(2,.r 0)])
 .ret)
 (.seq
 (.reg false [p (.load (none) (.v 3)),
 p (.bin .lss (.r 0) (.k (.int .i64 1))),
 p (.mov (.r 0)),
 ⟨.fad 0 (.v 1),some (0,false),[]⟩,
 ⟨.load (none) (.r 0),some (1,false),[]⟩,
 ⟨.len true (.r 0),some (2,false),[]⟩,
 ⟨.bin .lss (.r 0) (.k (.int .i64 1)),some (3,false),[]⟩,
 p (.pick (.r 4) (.k (.bool true)) (.r 0)),
 p (.mov (.r 0)),
 ⟨.fad 0 (.v 1),some (0,false),[]⟩,
 ⟨.load (none) (.r 0),some (1,false),[]⟩,
 ⟨.len true (.r 0),some (2,false),[]⟩,
 ⟨.bin .gtr (.r 0) (.k (.int .i64 16)),some (3,false),[]⟩,
 p (.pick (.r 4) (.k (.bool true)) (.r 0)),
 p (.mov (.r 0)),
 ⟨.fad 1 (.v 1),some (0,false),[]⟩,
 ⟨.load (none) (.r 0),some (1,false),[]⟩,
 ⟨.mkf 115 [] [.v 3],some (2,false),[]⟩,
 ⟨.call false (.k (.fn 114 [] [])) [.r 1,.r 0],some (3,false),[]⟩,
 p (.pick (.r 4) (.k (.bool true)) (.r 0)),
 p (.mov (.r 0))] [(1,.v 1),(3,.v 3),(10,.r 0)])
 (.cond (.v 10)
 (.seq
 (.reg false [p (.mov (.k (.int .i64 1)))] [(2,.r 0)])
 .ret)
 (.seq
 (.reg true [p (.fad 1 (.v 1)),
 p (.load (none) (.r 0)),
 p (.call true (.k (.fn 117 [] [])) [.r 0]),
 p (.len false (.r 0)),
 p (.load (none) (.v 3)),
 p (.bin .lss (.r 1) (.r 0)),
 p (.mov (.r 0))] [(31,.r 0)])
 (.cond (.v 31)
 (.seq
 (.reg false [p (.mov (.k (.int .i64 160)))] [(2,.r 0)])
 .ret)
 .skip)))))))
 (.seq
 (.reg false [p (.mov (.k (.int .i64 0)))] [(2,.r 0)])
 .ret))))
def r54:List RV:=[.t 2]
theorem en54:EnP Tryz.prog 54 38 c54 r54:=a0x (by kernel_rfl) Tryz.func54 (by kernel_rfl) ⟨_,rfl,by kernel_rfl,by kernel_rfl⟩
def c129:C :=
  (.seq
 (.reg false [p (.box 2 (.v 0)),
 p (.mov (.k (.bool false)))] [(1,.r 1)])
 (.seq
 (.reg false [p (.fad 1 (.v 1)),
 p (.load (none) (.r 0)),
 p (.len false (.r 0)),
 p (.mov (.r 0))] [(1,.v 1),(3,.r 0)])
 (.seq
 (.seq
 (.reg false [p (.mov (.v 3)),
 p (.bin .lss (.r 0) (.k (.int .i64 1))),
 p (.mov (.r 0)),
 ⟨.fad 0 (.v 1),some (0,false),[]⟩,
 ⟨.load (none) (.r 0),some (1,false),[]⟩,
 ⟨.len true (.r 0),some (2,false),[]⟩,
 ⟨.bin .lss (.r 0) (.k (.int .i64 1)),some (3,false),[]⟩,
 p (.pick (.r 4) (.k (.bool true)) (.r 0)),
 p (.mov (.r 0)),
 ⟨.fad 0 (.v 1),some (0,false),[]⟩,
 ⟨.load (none) (.r 0),some (1,false),[]⟩,
 ⟨.len true (.r 0),some (2,false),[]⟩,
 ⟨.bin .gtr (.r 0) (.k (.int .i64 16)),some (3,false),[]⟩,
 p (.pick (.r 4) (.k (.bool true)) (.r 0))] [(1,.v 1),(3,.v 3),(24,.r 0)])
 (.cond (.v 24)
 (.seq
 (.reg false [p (.mov (.k (.bool false)))] [(2,.r 0)])
 .ret)
 .skip))
 (.seq
 (.seq
 (.reg false [p (.fad 1 (.v 1)),
 p (.load (none) (.r 0)),
 p (.len false (.r 0)),
 p (.mov (.k (.int .i64 0)))] [(3,.v 3),(26,.r 2),(27,.r 1),(28,.r 0)])
 (.block 0
 (.loop
 (.seq
 (.reg false [p (.bin .lss (.v 28) (.v 27))] [(3,.v 3),(26,.v 26),(27,.v 27),(28,.v 28),(29,.r 0)])
 (.seq
 (.cond (.v 29)
 .skip
 (.exit 0))
 (.seq
 (.block 1
 (.seq
 (.reg false [p (.iad 4 (.v 26) (.v 28)),
 p (.load (some 4) (.r 0)),
 p (.alloc 4 (.agg [.fsl .nil 1 [],.int .i64 0,.int .i64 0,.int .i64 0])),
 p (.store (some 4) (.r 0) (.r 1))] [(3,.v 3),(5,.r 1),(26,.v 26),(27,.v 27),(28,.v 28)])
 (.seq
 (.seq
 (.reg false [p (.fad 0 (.v 5)),
 p (.load (none) (.r 0)),
 p (.len false (.r 0)),
 p (.mov (.k (.int .i64 0)))] [(3,.v 3),(5,.v 5),(26,.v 26),(27,.v 27),(28,.v 28),(33,.r 2),(34,.r 1),(35,.r 0)])
 (.block 2
 (.loop
 (.seq
 (.reg false [p (.bin .lss (.v 35) (.v 34))] [(3,.v 3),(5,.v 5),(26,.v 26),(27,.v 27),(28,.v 28),(33,.v 33),(34,.v 34),(35,.v 35),(36,.r 0)])
 (.seq
 (.cond (.v 36)
 .skip
 (.exit 2))
 (.seq
 (.block 3
 (.seq
 (.reg false [p (.mov (.v 35)),
 p (.iad 1 (.v 33) (.v 35)),
 p (.load (none) (.r 0)),
 p (.mov (.r 2)),
 p (.mov (.r 1))] [(3,.v 3),(5,.v 5),(6,.r 1),(7,.r 0),(26,.v 26),(27,.v 27),(28,.v 28),(33,.v 33),(34,.v 34),(35,.v 35)])
 (.seq
 (.reg false [p (.mov (.v 7)),
 p (.bin .lss (.r 0) (.k (.int .i64 0))),
 p (.mov (.r 0)),
 ⟨.mov (.v 7),some (0,false),[]⟩,
 ⟨.mov (.v 3),some (1,false),[]⟩,
 ⟨.bin .geq (.r 1) (.r 0),some (2,false),[]⟩,
 p (.pick (.r 3) (.k (.bool true)) (.r 0)),
 p (.mov (.r 0)),
 ⟨.mov (.v 6),some (0,false),[]⟩,
 ⟨.bin .gtr (.r 0) (.k (.int .i64 0)),some (1,false),[]⟩,
 ⟨.mov (.r 0),some (2,false),[]⟩,
 ⟨.mov (.v 7),some (0,true),[]⟩,
 ⟨.fad 0 (.v 5),some (1,true),[]⟩,
 ⟨.load (none) (.r 0),some (2,true),[]⟩,
 ⟨.mov (.v 6),some (3,true),[]⟩,
 ⟨.bin .sub (.r 0) (.k (.int .i64 1)),some (4,true),[]⟩,
 ⟨.iad 1 (.r 2) (.r 0),some (5,true),[]⟩,
 ⟨.load (none) (.r 0),some (6,true),[]⟩,
 ⟨.bin .leq (.r 6) (.r 0),some (7,true),[]⟩,
 ⟨.pick (.r 8) (.r 0) (.k (.bool false)),some (11,false),[]⟩,
 p (.pick (.r 12) (.k (.bool true)) (.r 0))] [(3,.v 3),(5,.v 5),(26,.v 26),(27,.v 27),(28,.v 28),(33,.v 33),(34,.v 34),(35,.v 35),(60,.r 0)])
 (.cond (.v 60)
 (.seq
 (.reg false [p (.mov (.k (.bool false)))] [(2,.r 0)])
 .ret)
 .skip))))
 (.reg false [p (.bin .add (.v 35) (.k (.int .i64 1))),
 p (.mov (.r 0))] [(3,.v 3),(5,.v 5),(26,.v 26),(27,.v 27),(28,.v 28),(33,.v 33),(34,.v 34),(35,.r 0)])))))))
 (.frz
 (.seq
 (.reg false [p (.fad 1 (.v 5)),
 p (.load (none) (.r 0)),
 p (.bin .lss (.r 0) (.k (.int .i64 1))),
 p (.mov (.r 0)),
 ⟨.fad 1 (.v 5),some (0,false),[]⟩,
 ⟨.load (none) (.r 0),some (1,false),[]⟩,
 ⟨.bin .gtr (.r 0) (.k (.int .i64 8)),some (2,false),[]⟩,
 p (.pick (.r 3) (.k (.bool true)) (.r 0)),
 p (.mov (.r 0)),
 ⟨.fad 2 (.v 5),some (0,false),[]⟩,
 ⟨.load (none) (.r 0),some (1,false),[]⟩,
 ⟨.bin .lss (.r 0) (.k (.int .i64 0)),some (2,false),[]⟩,
 p (.pick (.r 3) (.k (.bool true)) (.r 0)),
 p (.mov (.r 0)),
 ⟨.fad 2 (.v 5),some (0,false),[]⟩,
 ⟨.load (none) (.r 0),some (1,false),[]⟩,
 ⟨.bin .gtr (.r 0) (.k (.int .i64 1048576)),some (2,false),[]⟩,
 p (.pick (.r 3) (.k (.bool true)) (.r 0)),
 p (.mov (.r 0)),
 ⟨.fad 3 (.v 5),some (0,false),[]⟩,
 ⟨.load (none) (.r 0),some (1,false),[]⟩,
 ⟨.bin .lss (.r 0) (.k (.int .i64 1)),some (2,false),[]⟩,
 p (.pick (.r 3) (.k (.bool true)) (.r 0)),
 p (.mov (.r 0)),
 ⟨.fad 3 (.v 5),some (0,false),[]⟩,
 ⟨.load (none) (.r 0),some (1,false),[]⟩,
 ⟨.bin .gtr (.r 0) (.k (.int .i64 1048576)),some (2,false),[]⟩,
 p (.pick (.r 3) (.k (.bool true)) (.r 0))] [(3,.v 3),(26,.v 26),(27,.v 27),(28,.v 28),(89,.r 0)])
 (.cond (.v 89)
 (.seq
 (.reg false [p (.mov (.k (.bool false)))] [(2,.r 0)])
 .ret)
 .skip))))))
 (.frz
 (.reg false [p (.bin .add (.v 28) (.k (.int .i64 1))),
 p (.mov (.r 0))] [(3,.v 3),(26,.v 26),(27,.v 27),(28,.r 0)]))))))))
 (.frz
 (.seq
 (.reg false [p (.mov (.k (.bool true)))] [(2,.r 0)])
 .ret))))))
def r129:List RV:=[.t 2]
theorem en129:EnP Tryz.prog 129 91 c129 r129:=a0x (by kernel_rfl) Tryz.func129 (by kernel_rfl) ⟨_,rfl,by kernel_rfl,by kernel_rfl⟩
def c130:C :=
  (.seq
 (.reg false [p (.box 2 (.v 0)),
 p (.mov (.k (.fsl .nil 1 [])))] [(1,.v 1),(2,.r 1)])
 (.seq
 (.reg false [p (.fad 1 (.v 2)),
 p (.load (none) (.r 0)),
 p (.len false (.r 0)),
 p (.mks 1 1 (.bool false) (.r 0)),
 p (.mov (.r 0))] [(1,.v 1),(2,.v 2),(5,.r 0)])
 (.seq
 (.seq
 (.reg false [p (.fad 1 (.v 2)),
 p (.load (none) (.r 0)),
 p (.mov (.v 1)),
 p (.iad 4 (.r 1) (.r 0)),
 p (.fad 0 (.r 0)),
 p (.load (none) (.r 0)),
 p (.len false (.r 0)),
 p (.mov (.k (.int .i64 0)))] [(2,.v 2),(5,.v 5),(22,.r 2),(23,.r 1),(24,.r 0)])
 (.block 0
 (.loop
 (.seq
 (.reg false [p (.bin .lss (.v 24) (.v 23))] [(2,.v 2),(5,.v 5),(22,.v 22),(23,.v 23),(24,.v 24),(25,.r 0)])
 (.seq
 (.cond (.v 25)
 .skip
 (.exit 0))
 (.seq
 (.block 1
 (.seq
 (.reg false [p (.iad 1 (.v 22) (.v 24)),
 p (.load (none) (.r 0)),
 p (.mov (.r 0))] [(2,.v 2),(5,.v 5),(7,.r 0),(22,.v 22),(23,.v 23),(24,.v 24)])
 (.reg false [p (.mov (.v 5)),
 p (.mov (.v 7)),
 p (.iad 1 (.r 1) (.r 0)),
 p (.store (none) (.r 0) (.k (.bool true)))] [(2,.v 2),(5,.v 5),(22,.v 22),(23,.v 23),(24,.v 24)])))
 (.reg false [p (.bin .add (.v 24) (.k (.int .i64 1))),
 p (.mov (.r 0))] [(2,.v 2),(5,.v 5),(22,.v 22),(23,.v 23),(24,.r 0)])))))))
 (.frz
 (.seq
 (.seq
 (.reg false [p (.mov (.k (.int .i64 0)))] [(2,.v 2),(5,.v 5),(8,.r 0)])
 (.block 2
 (.loop
 (.seq
 (.seq
 (.reg false [p (.mov (.v 8)),
 p (.fad 1 (.v 2)),
 p (.load (none) (.r 0)),
 p (.len false (.r 0)),
 p (.bin .lss (.r 3) (.r 0))] [(2,.v 2),(5,.v 5),(8,.v 8),(36,.r 0)])
 (.cond (.v 36)
 .skip
 (.exit 2)))
 (.seq
 (.block 3
 (.seq
 (.reg false [p (.fad 1 (.v 2)),
 p (.load (none) (.r 0)),
 p (.len false (.r 0)),
 p (.mov (.k (.int .i64 0)))] [(2,.v 2),(5,.v 5),(8,.v 8),(40,.r 2),(41,.r 1),(42,.r 0)])
 (.block 4
 (.loop
 (.seq
 (.reg false [p (.bin .lss (.v 42) (.v 41))] [(2,.v 2),(5,.v 5),(8,.v 8),(40,.v 40),(41,.v 41),(42,.v 42),(43,.r 0)])
 (.seq
 (.cond (.v 43)
 .skip
 (.exit 4))
 (.seq
 (.block 5
 (.seq
 (.reg false [p (.mov (.v 42)),
 p (.iad 4 (.v 40) (.v 42)),
 p (.load (some 4) (.r 0)),
 p (.alloc 4 (.agg [.fsl .nil 1 [],.int .i64 0,.int .i64 0,.int .i64 0])),
 p (.mov (.r 3)),
 p (.store (some 4) (.r 1) (.r 2))] [(2,.v 2),(5,.v 5),(8,.v 8),(9,.r 1),(10,.r 2),(40,.v 40),(41,.v 41),(42,.v 42)])
 (.seq
 (.reg false [p (.mov (.v 5)),
 p (.mov (.v 9)),
 p (.iad 1 (.r 1) (.r 0)),
 p (.load (none) (.r 0))] [(2,.v 2),(5,.v 5),(8,.v 8),(10,.v 10),(40,.v 40),(41,.v 41),(42,.v 42),(50,.r 0)])
 (.cond (.v 50)
 (.seq
 (.reg false [p (.fad 0 (.v 10)),
 p (.load (none) (.r 0)),
 p (.len false (.r 0)),
 p (.mov (.k (.int .i64 0)))] [(2,.v 2),(5,.v 5),(8,.v 8),(40,.v 40),(41,.v 41),(42,.v 42),(52,.r 2),(53,.r 1),(54,.r 0)])
 (.block 6
 (.loop
 (.seq
 (.reg false [p (.bin .lss (.v 54) (.v 53))] [(2,.v 2),(5,.v 5),(8,.v 8),(40,.v 40),(41,.v 41),(42,.v 42),(52,.v 52),(53,.v 53),(54,.v 54),(55,.r 0)])
 (.seq
 (.cond (.v 55)
 .skip
 (.exit 6))
 (.seq
 (.block 7
 (.seq
 (.reg false [p (.iad 1 (.v 52) (.v 54)),
 p (.load (none) (.r 0)),
 p (.mov (.r 0))] [(2,.v 2),(5,.v 5),(8,.v 8),(12,.r 0),(40,.v 40),(41,.v 41),(42,.v 42),(52,.v 52),(53,.v 53),(54,.v 54)])
 (.reg false [p (.mov (.v 5)),
 p (.mov (.v 12)),
 p (.iad 1 (.r 1) (.r 0)),
 p (.store (none) (.r 0) (.k (.bool true)))] [(2,.v 2),(5,.v 5),(8,.v 8),(40,.v 40),(41,.v 41),(42,.v 42),(52,.v 52),(53,.v 53),(54,.v 54)])))
 (.reg false [p (.bin .add (.v 54) (.k (.int .i64 1))),
 p (.mov (.r 0))] [(2,.v 2),(5,.v 5),(8,.v 8),(40,.v 40),(41,.v 41),(42,.v 42),(52,.v 52),(53,.v 53),(54,.r 0)])))))))
 .skip))))
 (.frz
 (.reg false [p (.bin .add (.v 42) (.k (.int .i64 1))),
 p (.mov (.r 0))] [(2,.v 2),(5,.v 5),(8,.v 8),(40,.v 40),(41,.v 41),(42,.r 0)])))))))))
 (.frz
 (.reg false [p (.mov (.v 8)),
 p (.bin .add (.r 0) (.k (.int .i64 1))),
 p (.mov (.r 0))] [(2,.v 2),(5,.v 5),(8,.r 0)])))))))
 (.frz
 (.seq
 (.reg false [p (.mov (.v 5)),
 p (.mov (.r 0))] [(4,.r 0)])
 .ret)))))))
def r130:List RV:=[.t 4]
theorem en130:EnP Tryz.prog 130 64 c130 r130:=a0x (by kernel_rfl) Tryz.func130 (by kernel_rfl) ⟨_,rfl,by kernel_rfl,by kernel_rfl⟩
def c58:C :=
  (.seq
 (.reg false [p (.box 2 (.v 0)),
 p (.mov (.k (.int .i64 0)))] [(1,.r 1)])
 (.seq
 (.seq
 (.reg false [p (.fad 1 (.v 1)),
 p (.load (none) (.r 0)),
 p (.len false (.r 0)),
 p (.bin .gtr (.r 0) (.k (.int .i64 10)))] [(1,.v 1),(8,.r 0)])
 (.cond (.v 8)
 (.seq
 (.reg false [p (.mov (.k (.int .i64 2)))] [(2,.r 0)])
 .ret)
 .skip))
 (.seq
 (.seq
 (.reg false [p (.load (some 2) (.v 1)),
 p (.call true (.k (.fn 129 [] [])) [.r 0]),
 p (.un .not (.r 0))] [(1,.v 1),(11,.r 0)])
 (.cond (.v 11)
 (.seq
 (.reg false [p (.mov (.k (.int .i64 1)))] [(2,.r 0)])
 .ret)
 .skip))
 (.seq
 (.seq
 (.reg false [p (.fad 1 (.v 1)),
 p (.load (none) (.r 0)),
 p (.len false (.r 0)),
 p (.mov (.k (.int .i64 0)))] [(1,.v 1),(14,.r 1),(15,.r 0)])
 (.block 0
 (.loop
 (.seq
 (.reg false [p (.bin .lss (.v 15) (.v 14))] [(1,.v 1),(14,.v 14),(15,.v 15),(16,.r 0)])
 (.seq
 (.cond (.v 16)
 .skip
 (.exit 0))
 (.seq
 (.block 1
 (.seq
 (.reg false [p (.mov (.v 15)),
 p (.mov (.r 0))] [(1,.v 1),(3,.r 0),(14,.v 14),(15,.v 15)])
 (.seq
 (.reg false [p (.load (some 2) (.v 1)),
 p (.mov (.v 3)),
 p (.call true (.k (.fn 130 [] [])) [.r 1,.r 0]),
 p (.mov (.r 0))] [(1,.v 1),(3,.v 3),(4,.r 0),(14,.v 14),(15,.v 15)])
 (.seq
 (.reg false [p (.mov (.v 4)),
 p (.mov (.v 3)),
 p (.iad 1 (.r 1) (.r 0)),
 p (.load (none) (.r 0))] [(1,.v 1),(14,.v 14),(15,.v 15),(24,.r 0)])
 (.cond (.v 24)
 (.seq
 (.reg false [p (.mov (.k (.int .i64 160)))] [(2,.r 0)])
 .ret)
 .skip)))))
 (.reg false [p (.bin .add (.v 15) (.k (.int .i64 1))),
 p (.mov (.r 0))] [(1,.v 1),(14,.v 14),(15,.r 0)])))))))
 (.frz
 (.seq
 (.reg false [p (.mov (.k (.int .i64 0)))] [(2,.r 0)])
 .ret))))))
def r58:List RV:=[.t 2]
theorem en58:EnP Tryz.prog 58 26 c58 r58:=a0x (by kernel_rfl) Tryz.func58 (by kernel_rfl) ⟨_,rfl,by kernel_rfl,by kernel_rfl⟩
def c137:C :=
  (.seq
 (.reg false [p (.box 5 (.v 0)),
 p (.mov (.k (.bool false)))] [(1,.r 1)])
 (.seq
 (.seq
 (.reg false [p (.fad 0 (.v 1)),
 p (.load (none) (.r 0)),
 p (.bin .lss (.r 0) (.k (.int .i64 0))),
 p (.mov (.r 0)),
 ⟨.fad 0 (.v 1),some (0,false),[]⟩,
 ⟨.load (none) (.r 0),some (1,false),[]⟩,
 ⟨.bin .gtr (.r 0) (.k (.int .i64 5)),some (2,false),[]⟩,
 p (.pick (.r 3) (.k (.bool true)) (.r 0)),
 p (.mov (.r 0)),
 ⟨.fad 1 (.v 1),some (0,false),[]⟩,
 ⟨.load (none) (.r 0),some (1,false),[]⟩,
 ⟨.bin .lss (.r 0) (.k (.int .i64 0)),some (2,false),[]⟩,
 p (.pick (.r 3) (.k (.bool true)) (.r 0)),
 p (.mov (.r 0)),
 ⟨.fad 1 (.v 1),some (0,false),[]⟩,
 ⟨.load (none) (.r 0),some (1,false),[]⟩,
 ⟨.bin .gtr (.r 0) (.k (.int .i64 8)),some (2,false),[]⟩,
 p (.pick (.r 3) (.k (.bool true)) (.r 0)),
 p (.mov (.r 0)),
 ⟨.fad 2 (.v 1),some (0,false),[]⟩,
 ⟨.load (none) (.r 0),some (1,false),[]⟩,
 ⟨.bin .lss (.r 0) (.k (.int .i64 0)),some (2,false),[]⟩,
 p (.pick (.r 3) (.k (.bool true)) (.r 0)),
 p (.mov (.r 0)),
 ⟨.fad 2 (.v 1),some (0,false),[]⟩,
 ⟨.load (none) (.r 0),some (1,false),[]⟩,
 ⟨.bin .gtr (.r 0) (.k (.int .i64 1099511627776)),some (2,false),[]⟩,
 p (.pick (.r 3) (.k (.bool true)) (.r 0))] [(1,.v 1),(30,.r 0)])
 (.cond (.v 30)
 (.seq
 (.reg false [p (.mov (.k (.bool false)))] [(2,.r 0)])
 .ret)
 .skip))
 (.seq
 (.seq
 (.reg false [p (.fad 3 (.v 1)),
 p (.load (none) (.r 0)),
 p (.bin .lss (.r 0) (.k (.int .i64 0))),
 p (.mov (.r 0)),
 ⟨.fad 3 (.v 1),some (0,false),[]⟩,
 ⟨.load (none) (.r 0),some (1,false),[]⟩,
 ⟨.bin .gtr (.r 0) (.k (.int .i64 1099511627776)),some (2,false),[]⟩,
 p (.pick (.r 3) (.k (.bool true)) (.r 0)),
 p (.mov (.r 0)),
 ⟨.fad 3 (.v 1),some (0,false),[]⟩,
 ⟨.load (none) (.r 0),some (1,false),[]⟩,
 ⟨.bin .gtr (.r 0) (.k (.int .i64 0)),some (2,false),[]⟩,
 ⟨.fad 0 (.v 1),some (3,false),[]⟩,
 ⟨.load (none) (.r 0),some (4,false),[]⟩,
 ⟨.bin .eql (.r 0) (.k (.int .i64 2)),some (5,false),[]⟩,
 ⟨.eqb true (.r 3) (.r 0),some (6,false),[]⟩,
 p (.pick (.r 7) (.k (.bool true)) (.r 0))] [(1,.v 1),(47,.r 0)])
 (.cond (.v 47)
 (.seq
 (.reg false [p (.mov (.k (.bool false)))] [(2,.r 0)])
 .ret)
 .skip))
 (.seq
 (.reg false [p (.fad 4 (.v 1)),
 p (.load (none) (.r 0)),
 p (.len true (.r 0)),
 p (.bin .leq (.r 0) (.k (.int .i64 16))),
 p (.mov (.r 0)),
 ⟨.fad 4 (.v 1),some (0,true),[]⟩,
 ⟨.load (none) (.r 0),some (1,true),[]⟩,
 ⟨.bin .eql (.r 0) (.k (.str [])),some (2,true),[]⟩,
 ⟨.mov (.r 0),some (3,true),[]⟩,
 ⟨.fad 0 (.v 1),some (0,false),[]⟩,
 ⟨.load (none) (.r 0),some (1,false),[]⟩,
 ⟨.bin .eql (.r 0) (.k (.int .i64 3)),some (2,false),[]⟩,
 ⟨.pick (.r 3) (.k (.bool true)) (.r 0),some (7,true),[]⟩,
 p (.pick (.r 8) (.r 0) (.k (.bool false))),
 p (.mov (.r 0))] [(2,.r 0)])
 .ret))))
def r137:List RV:=[.t 2]
theorem en137:EnP Tryz.prog 137 62 c137 r137:=a0x (by kernel_rfl) Tryz.func137 (by kernel_rfl) ⟨_,rfl,by kernel_rfl,by kernel_rfl⟩
def c179:C :=
  (.seq
 (.reg false [p (.box 5 (.v 0)),
 p (.mov (.k (.bool false)))] [(1,.r 1)])
 (.seq
 (.seq
 (.reg false [p (.fad 0 (.v 1)),
 p (.load (none) (.r 0)),
 p (.bin .lss (.r 0) (.k (.int .i64 0))),
 p (.mov (.r 0)),
 ⟨.fad 0 (.v 1),some (0,false),[]⟩,
 ⟨.load (none) (.r 0),some (1,false),[]⟩,
 ⟨.bin .gtr (.r 0) (.k (.int .i64 5)),some (2,false),[]⟩,
 p (.pick (.r 3) (.k (.bool true)) (.r 0)),
 p (.mov (.r 0)),
 ⟨.fad 1 (.v 1),some (0,false),[]⟩,
 ⟨.load (none) (.r 0),some (1,false),[]⟩,
 ⟨.bin .lss (.r 0) (.k (.int .i64 0)),some (2,false),[]⟩,
 p (.pick (.r 3) (.k (.bool true)) (.r 0)),
 p (.mov (.r 0)),
 ⟨.fad 1 (.v 1),some (0,false),[]⟩,
 ⟨.load (none) (.r 0),some (1,false),[]⟩,
 ⟨.bin .gtr (.r 0) (.k (.int .i64 8)),some (2,false),[]⟩,
 p (.pick (.r 3) (.k (.bool true)) (.r 0)),
 p (.mov (.r 0)),
 ⟨.fad 2 (.v 1),some (0,false),[]⟩,
 ⟨.load (none) (.r 0),some (1,false),[]⟩,
 ⟨.bin .lss (.r 0) (.k (.int .i64 0)),some (2,false),[]⟩,
 p (.pick (.r 3) (.k (.bool true)) (.r 0)),
 p (.mov (.r 0)),
 ⟨.fad 2 (.v 1),some (0,false),[]⟩,
 ⟨.load (none) (.r 0),some (1,false),[]⟩,
 ⟨.bin .gtr (.r 0) (.k (.int .i64 1099511627776)),some (2,false),[]⟩,
 p (.pick (.r 3) (.k (.bool true)) (.r 0)),
 p (.mov (.r 0)),
 ⟨.fad 3 (.v 1),some (0,false),[]⟩,
 ⟨.load (none) (.r 0),some (1,false),[]⟩,
 ⟨.bin .gtr (.r 0) (.k (.int .i64 1099511627776)),some (2,false),[]⟩,
 p (.pick (.r 3) (.k (.bool true)) (.r 0)),
 p (.mov (.r 0)),
 ⟨.fad 4 (.v 1),some (0,false),[]⟩,
 ⟨.load (none) (.r 0),some (1,false),[]⟩,
 ⟨.len true (.r 0),some (2,false),[]⟩,
 ⟨.bin .gtr (.r 0) (.k (.int .i64 16)),some (3,false),[]⟩,
 p (.pick (.r 4) (.k (.bool true)) (.r 0))] [(1,.v 1),(41,.r 0)])
 (.cond (.v 41)
 (.seq
 (.reg false [p (.mov (.k (.bool false)))] [(2,.r 0)])
 .ret)
 .skip))
 (.seq
 (.seq
 (.reg false [p (.fad 0 (.v 1)),
 p (.load (none) (.r 0)),
 p (.bin .eql (.r 0) (.k (.int .i64 2))),
 p (.mov (.r 0)),
 ⟨.fad 3 (.v 1),some (0,true),[]⟩,
 ⟨.load (none) (.r 0),some (1,true),[]⟩,
 ⟨.bin .lss (.r 0) (.k (.int .i64 1)),some (2,true),[]⟩,
 p (.pick (.r 3) (.r 0) (.k (.bool false))),
 p (.mov (.r 0)),
 ⟨.fad 0 (.v 1),some (0,false),[]⟩,
 ⟨.load (none) (.r 0),some (1,false),[]⟩,
 ⟨.bin .neq (.r 0) (.k (.int .i64 2)),some (2,false),[]⟩,
 ⟨.mov (.r 0),some (3,false),[]⟩,
 ⟨.fad 3 (.v 1),some (0,true),[]⟩,
 ⟨.load (none) (.r 0),some (1,true),[]⟩,
 ⟨.bin .neq (.r 0) (.k (.int .i64 0)),some (2,true),[]⟩,
 ⟨.pick (.r 3) (.r 0) (.k (.bool false)),some (7,false),[]⟩,
 p (.pick (.r 8) (.k (.bool true)) (.r 0))] [(1,.v 1),(59,.r 0)])
 (.cond (.v 59)
 (.seq
 (.reg false [p (.mov (.k (.bool false)))] [(2,.r 0)])
 .ret)
 .skip))
 (.seq
 (.reg false [p (.fad 0 (.v 1)),
 p (.load (none) (.r 0)),
 p (.bin .eql (.r 0) (.k (.int .i64 3))),
 p (.mov (.r 0)),
 ⟨.fad 4 (.v 1),some (0,false),[]⟩,
 ⟨.load (none) (.r 0),some (1,false),[]⟩,
 ⟨.bin .eql (.r 0) (.k (.str [])),some (2,false),[]⟩,
 p (.pick (.r 3) (.k (.bool true)) (.r 0)),
 p (.mov (.r 0))] [(2,.r 0)])
 .ret))))
def r179:List RV:=[.t 2]
theorem en179:EnP Tryz.prog 179 68 c179 r179:=a0x (by kernel_rfl) Tryz.func179 (by kernel_rfl) ⟨_,rfl,by kernel_rfl,by kernel_rfl⟩
def c237:C :=
  (.seq
 (.reg false [p (.mov (.k (.int .i64 0)))] [(0,.v 0),(1,.v 1)])
 (.seq
 (.seq
 (.reg false [p (.mov (.v 0)),
 p (.bin .lss (.r 0) (.k (.int .i64 1))),
 p (.mov (.r 0)),
 ⟨.mov (.v 1),some (0,false),[]⟩,
 ⟨.bin .lss (.r 0) (.k (.int .i64 1)),some (1,false),[]⟩,
 p (.pick (.r 2) (.k (.bool true)) (.r 0))] [(0,.v 0),(1,.v 1),(10,.r 0)])
 (.cond (.v 10)
 (.seq
 (.reg false [p (.mov (.k (.int .i64 0)))] [(4,.r 0)])
 .ret)
 .skip))
 (.seq
 (.reg false [p (.mov (.v 0)),
 p (.mnx false (.r 0) [.k (.int .i64 1048576)]),
 p (.mov (.r 0))] [(0,.r 0),(1,.v 1)])
 (.seq
 (.block 0
 (.loop
 (.seq
 (.seq
 (.reg false [p (.mov (.v 1)),
 p (.bin .gtr (.r 0) (.k (.int .i64 1))),
 p (.mov (.r 0)),
 ⟨.mov (.v 0),some (0,true),[]⟩,
 ⟨.bin .lss (.r 0) (.k (.int .i64 1048576)),some (1,true),[]⟩,
 p (.pick (.r 2) (.r 0) (.k (.bool false)))] [(0,.v 0),(1,.v 1),(18,.r 0)])
 (.cond (.v 18)
 .skip
 (.exit 0)))
 (.seq
 (.block 1
 (.reg false [p (.mov (.v 0)),
 p (.bin .mul (.r 0) (.k (.int .i64 2))),
 p (.mov (.r 0))] [(0,.r 0),(1,.v 1)]))
 (.reg false [p (.mov (.v 1)),
 p (.bin .sub (.r 0) (.k (.int .i64 1))),
 p (.mov (.r 0))] [(0,.v 0),(1,.r 0)])))))
 (.frz
 (.seq
 (.reg false [p (.mov (.v 0)),
 p (.mnx false (.r 0) [.k (.int .i64 1048576)]),
 p (.mov (.r 0))] [(4,.r 0)])
 .ret))))))
def r237:List RV:=[.t 4]
theorem en237:EnP Tryz.prog 237 25 c237 r237:=a0x (by kernel_rfl) Tryz.func237 (by kernel_rfl) ⟨_,rfl,by kernel_rfl,by kernel_rfl⟩
def c236:C :=
  (.seq
 (.reg false [p (.mov (.k (.int .i64 0)))] [(0,.v 0),(1,.v 1)])
 (.seq
 (.reg false [p (.mov (.k (.int .i64 0)))] [(0,.v 0),(1,.v 1),(5,.r 0)])
 (.seq
 (.seq
 (.reg false [p (.mov (.v 0)),
 p (.bsl 1 [.r 0]),
 p (.mov (.v 1)),
 p (.app 1 8 (.r 1) (.r 0)),
 p (.len false (.r 0)),
 p (.mov (.k (.int .i64 0)))] [(5,.v 5),(11,.r 2),(12,.r 1),(13,.r 0)])
 (.frz
 (.block 0
 (.loop
 (.seq
 (.reg false [p (.bin .lss (.v 13) (.v 12))] [(5,.v 5),(11,.v 11),(12,.v 12),(13,.v 13),(14,.r 0)])
 (.seq
 (.cond (.v 14)
 .skip
 (.exit 0))
 (.seq
 (.block 1
 (.seq
 (.reg false [p (.iad 1 (.v 11) (.v 13)),
 p (.load (none) (.r 0)),
 p (.mov (.r 0))] [(5,.v 5),(7,.r 0),(11,.v 11),(12,.v 12),(13,.v 13)])
 (.reg false [p (.mov (.v 5)),
 p (.mov (.v 7)),
 p (.mnx true (.r 0) [.k (.int .i64 0)]),
 p (.mnx false (.r 0) [.k (.int .i64 1099511627776)]),
 p (.bin .add (.r 3) (.r 0)),
 p (.mnx false (.r 0) [.k (.int .i64 1099511627776)]),
 p (.mov (.r 0))] [(5,.r 0),(11,.v 11),(12,.v 12),(13,.v 13)])))
 (.reg false [p (.bin .add (.v 13) (.k (.int .i64 1))),
 p (.mov (.r 0))] [(5,.v 5),(11,.v 11),(12,.v 12),(13,.r 0)]))))))))
 (.frz
 (.seq
 (.reg false [p (.mov (.v 5)),
 p (.mov (.r 0))] [(4,.r 0)])
 .ret)))))
def r236:List RV:=[.t 4]
theorem en236:EnP Tryz.prog 236 25 c236 r236:=a0x (by kernel_rfl) Tryz.func236 (by kernel_rfl) ⟨_,rfl,by kernel_rfl,by kernel_rfl⟩
def c126:C :=
  (.seq
 (.reg false [p (.box 4 (.v 0)),
 p (.box 5 (.v 1)),
 p (.mov (.k (.bool false)))] [(2,.r 2),(3,.r 1)])
 (.seq
 (.seq
 (.reg false [p (.load (some 5) (.v 3)),
 p (.call true (.k (.fn 137 [] [])) [.r 0]),
 p (.un .not (.r 0)),
 p (.mov (.r 0)),
 ⟨.fad 1 (.v 3),some (0,false),[]⟩,
 ⟨.load (none) (.r 0),some (1,false),[]⟩,
 ⟨.fad 1 (.v 2),some (2,false),[]⟩,
 ⟨.load (none) (.r 0),some (3,false),[]⟩,
 ⟨.bin .gtr (.r 2) (.r 0),some (4,false),[]⟩,
 p (.pick (.r 5) (.k (.bool true)) (.r 0))] [(2,.v 2),(3,.v 3),(14,.r 0)])
 (.cond (.v 14)
 (.seq
 (.reg false [p (.mov (.k (.bool false)))] [(4,.r 0)])
 .ret)
 .skip))
 (.seq
 (.seq
 (.reg false [p (.fad 0 (.v 3)),
 p (.load (none) (.r 0))] [(2,.v 2),(3,.v 3),(16,.r 0)])
 (.block 0
 (.seq
 (.block 5
 (.seq
 (.block 4
 (.seq
 (.block 3
 (.seq
 (.block 2
 (.seq
 (.block 1
 (.seq
 (.seq
 (.seq
 (.reg false [p (.bin .eql (.v 16) (.k (.int .i64 0))),
 p (.mov (.r 0))] [(2,.v 2),(3,.v 3),(16,.v 16),(17,.r 0)])
 (.cond (.v 17)
 (.exit 1)
 .skip))
 (.seq
 (.seq
 (.reg false [p (.bin .eql (.v 16) (.k (.int .i64 1))),
 p (.mov (.r 0))] [(2,.v 2),(3,.v 3),(16,.v 16),(19,.r 0)])
 (.cond (.v 19)
 (.exit 2)
 .skip))
 (.seq
 (.seq
 (.reg false [p (.bin .eql (.v 16) (.k (.int .i64 2))),
 p (.mov (.r 0))] [(2,.v 2),(3,.v 3),(16,.v 16),(21,.r 0)])
 (.cond (.v 21)
 (.exit 3)
 .skip))
 (.seq
 (.seq
 (.reg false [p (.bin .eql (.v 16) (.k (.int .i64 4))),
 p (.mov (.r 0))] [(2,.v 2),(3,.v 3),(16,.v 16),(23,.r 0)])
 (.cond (.v 23)
 (.exit 4)
 .skip))
 (.seq
 (.reg false [p (.bin .eql (.v 16) (.k (.int .i64 5))),
 p (.mov (.r 0))] [(3,.v 3),(25,.r 0)])
 (.cond (.v 25)
 (.exit 5)
 .skip))))))
 (.exit 0)))
 (.seq
 (.seq
 (.reg false [p (.load (some 5) (.v 3)),
 p (.build [.int .i64 0,.int .i64 0,.int .i64 0,.int .i64 0,.str []] []),
 p (.eqs false [0,0,0,0,1] (.r 1) (.r 0)),
 p (.mov (.r 0))] [(4,.r 0)])
 .ret)
 (.exit 0))))
 (.seq
 (.seq
 (.reg false [p (.fad 1 (.v 3)),
 p (.load (none) (.r 0)),
 p (.fad 1 (.v 2)),
 p (.load (none) (.r 0)),
 p (.bin .lss (.r 2) (.r 0)),
 p (.mov (.r 0))] [(4,.r 0)])
 .ret)
 (.exit 0))))
 (.seq
 (.seq
 (.reg false [p (.fad 1 (.v 3)),
 p (.load (none) (.r 0)),
 p (.bin .geq (.r 0) (.k (.int .i64 1))),
 p (.mov (.r 0))] [(4,.r 0)])
 .ret)
 (.exit 0))))
 (.seq
 (.reg false [p (.fad 1 (.v 3)),
 p (.load (none) (.r 0)),
 p (.fad 1 (.v 2)),
 p (.load (none) (.r 0)),
 p (.bin .neq (.r 2) (.r 0))] [(3,.v 3),(42,.r 0)])
 (.cond (.v 42)
 (.seq
 (.reg false [p (.mov (.k (.bool false)))] [(4,.r 0)])
 .ret)
 .skip))))
 (.seq
 (.seq
 (.reg false [p (.fad 2 (.v 3)),
 p (.load (none) (.r 0)),
 p (.bin .eql (.r 0) (.k (.int .i64 0))),
 p (.mov (.r 0))] [(4,.r 0)])
 .ret)
 (.exit 0)))))
 (.seq
 (.reg false [p (.fad 1 (.v 3)),
 p (.load (none) (.r 0)),
 p (.bin .geq (.r 0) (.k (.int .i64 1))),
 p (.mov (.r 0)),
 ⟨.fad 2 (.v 3),some (0,true),[]⟩,
 ⟨.load (none) (.r 0),some (1,true),[]⟩,
 ⟨.bin .eql (.r 0) (.k (.int .i64 0)),some (2,true),[]⟩,
 p (.pick (.r 3) (.r 0) (.k (.bool false))),
 p (.mov (.r 0))] [(4,.r 0)])
 .ret))))
def r126:List RV:=[.t 4]
theorem en126:EnP Tryz.prog 126 54 c126 r126:=a0x (by kernel_rfl) Tryz.func126 (by kernel_rfl) ⟨_,rfl,by kernel_rfl,by kernel_rfl⟩
def c233:C :=
  (.seq
 (.reg false [p (.box 5 (.v 0)),
 p (.alloc 5 (.agg [.int .i64 0,.int .i64 0,.int .i64 0,.int .i64 0,.str []]))] [(1,.r 1),(2,.r 0)])
 (.seq
 (.seq
 (.reg false [p (.fad 0 (.v 1)),
 p (.load (none) (.r 0)),
 p (.bin .eql (.r 0) (.k (.int .i64 0)))] [(1,.v 1),(2,.v 2),(5,.r 0)])
 (.cond (.v 5)
 (.reg false [p (.fad 0 (.v 1)),
 p (.store (none) (.r 0) (.k (.int .i64 1)))] [(1,.v 1),(2,.v 2)])
 .skip))
 (.seq
 (.reg false [p (.load (some 5) (.v 1)),
 p (.store (some 5) (.v 2) (.r 0))] [(2,.v 2)])
 .ret)))
def r233:List RV:=[.c 2 (some 5)]
theorem en233:EnP Tryz.prog 233 8 c233 r233:=a0x (by kernel_rfl) Tryz.func233 (by kernel_rfl) ⟨_,rfl,by kernel_rfl,by kernel_rfl⟩
def c205:C :=
  (.seq
 (.reg false [p (.box 4 (.v 0)),
 p (.box 5 (.v 1)),
 p (.alloc 5 (.agg [.int .i64 0,.int .i64 0,.int .i64 0,.int .i64 0,.str []])),
 p (.mov (.k (.int .i64 0)))] [(2,.v 2),(3,.v 3),(4,.r 3),(5,.r 2),(8,.r 1)])
 (.seq
 (.block 0
 (.seq
 (.reg false [p (.mov (.v 3)),
 p (.bin .lss (.r 0) (.k (.int .i64 1))),
 p (.mov (.r 0)),
 ⟨.mov (.v 3),some (0,false),[]⟩,
 ⟨.bin .gtr (.r 0) (.k (.int .i64 1099511627776)),some (1,false),[]⟩,
 p (.pick (.r 2) (.k (.bool true)) (.r 0)),
 p (.mov (.r 0))] [(2,.v 2),(3,.v 3),(4,.v 4),(5,.v 5),(8,.v 8),(10,.r 0)])
 (.cond (.v 10)
 (.seq
 (.reg false [p (.build [.int .i64 0,.int .i64 0,.int .i64 0,.int .i64 0,.str []] []),
 p (.store (some 5) (.v 8) (.r 0)),
 p (.mov (.k (.int .i64 1)))] [(8,.v 8),(9,.r 0)])
 .ret)
 (.seq
 (.reg true [p (.fad 0 (.v 5)),
 p (.load (none) (.r 0)),
 p (.bin .neq (.r 0) (.k (.int .i64 1))),
 p (.mov (.r 0)),
 ⟨.fad 2 (.v 5),some (0,false),[]⟩,
 ⟨.load (none) (.r 0),some (1,false),[]⟩,
 ⟨.mov (.v 2),some (2,false),[]⟩,
 ⟨.call true (.k (.fn 236 [] [])) [.r 0,.k (.fsl .nil 1 [])],some (3,false),[]⟩,
 ⟨.bin .gtr (.r 2) (.r 0),some (4,false),[]⟩,
 p (.pick (.r 5) (.k (.bool true)) (.r 0)),
 p (.mov (.r 0))] [(2,.v 2),(3,.v 3),(4,.v 4),(5,.v 5),(8,.v 8),(18,.r 0)])
 (.cond (.v 18)
 (.seq
 (.reg false [p (.build [.int .i64 0,.int .i64 0,.int .i64 0,.int .i64 0,.str []] []),
 p (.store (some 5) (.v 8) (.r 0)),
 p (.mov (.k (.int .i64 192)))] [(8,.v 8),(9,.r 0)])
 .ret)
 .skip)))))
 (.seq
 (.reg false [p (.mov (.v 2)),
 p (.fad 3 (.v 4)),
 p (.load (none) (.r 0)),
 p (.bsl 1 [.r 0]),
 p (.call true (.k (.fn 236 [] [])) [.r 3,.r 0]),
 p (.mov (.v 3)),
 p (.fad 0 (.v 5)),
 p (.store (none) (.r 0) (.k (.int .i64 2))),
 p (.fad 2 (.v 5)),
 p (.store (none) (.r 0) (.r 4)),
 p (.fad 3 (.v 5)),
 p (.store (none) (.r 0) (.r 5))] [(5,.v 5),(8,.v 8)])
 (.seq
 (.reg false [p (.fad 1 (.v 5)),
 p (.load (none) (.r 0)),
 p (.bin .add (.r 0) (.k (.int .i64 1))),
 p (.fad 1 (.v 5)),
 p (.store (none) (.r 0) (.r 1))] [(5,.v 5),(8,.v 8)])
 (.seq
 (.reg false [p (.load (some 5) (.v 5)),
 p (.store (some 5) (.v 8) (.r 0)),
 p (.mov (.k (.int .i64 0)))] [(8,.v 8),(9,.r 0)])
 .ret)))))
def r205:List RV:=[.c 8 (some 5),.t 9]
theorem en205:EnP Tryz.prog 205 44 c205 r205:=a0x (by kernel_rfl) Tryz.func205 (by kernel_rfl) ⟨_,rfl,by kernel_rfl,by kernel_rfl⟩
def c212:C :=
  (.seq
 (.reg false [p (.box 4 (.v 0)),
 p (.box 5 (.v 1)),
 p (.alloc 5 (.agg [.int .i64 0,.int .i64 0,.int .i64 0,.int .i64 0,.str []])),
 p (.mov (.k (.int .i64 0)))] [(2,.v 2),(3,.r 3),(4,.r 2),(6,.r 1)])
 (.seq
 (.seq
 (.reg false [p (.fad 0 (.v 4)),
 p (.load (none) (.r 0)),
 p (.bin .neq (.r 0) (.k (.int .i64 2)))] [(2,.v 2),(3,.v 3),(4,.v 4),(6,.v 6),(10,.r 0)])
 (.cond (.v 10)
 (.seq
 (.reg false [p (.build [.int .i64 0,.int .i64 0,.int .i64 0,.int .i64 0,.str []] []),
 p (.store (some 5) (.v 6) (.r 0)),
 p (.mov (.k (.int .i64 191)))] [(6,.v 6),(7,.r 0)])
 .ret)
 .skip))
 (.seq
 (.reg false [p (.mov (.v 2)),
 p (.fad 3 (.v 3)),
 p (.load (none) (.r 0)),
 p (.bsl 1 [.r 0]),
 p (.call true (.k (.fn 236 [] [])) [.r 3,.r 0]),
 p (.fad 2 (.v 4)),
 p (.store (none) (.r 0) (.r 1))] [(4,.v 4),(6,.v 6)])
 (.seq
 (.reg false [p (.load (some 5) (.v 4)),
 p (.store (some 5) (.v 6) (.r 0)),
 p (.mov (.k (.int .i64 0)))] [(6,.v 6),(7,.r 0)])
 .ret))))
def r212:List RV:=[.c 6 (some 5),.t 7]
theorem en212:EnP Tryz.prog 212 19 c212 r212:=a0x (by kernel_rfl) Tryz.func212 (by kernel_rfl) ⟨_,rfl,by kernel_rfl,by kernel_rfl⟩
def c214:C :=
  (.seq
 (.reg false [p (.box 4 (.v 0)),
 p (.box 5 (.v 1)),
 p (.alloc 5 (.agg [.int .i64 0,.int .i64 0,.int .i64 0,.int .i64 0,.str []])),
 p (.mov (.k (.int .i64 0)))] [(2,.v 2),(4,.r 2),(6,.r 1)])
 (.seq
 (.block 0
 (.seq
 (.reg false [p (.fad 0 (.v 4)),
 p (.load (none) (.r 0)),
 p (.bin .neq (.r 0) (.k (.int .i64 2))),
 p (.mov (.r 0))] [(2,.v 2),(4,.v 4),(6,.v 6),(8,.r 0)])
 (.cond (.v 8)
 (.seq
 (.reg false [p (.build [.int .i64 0,.int .i64 0,.int .i64 0,.int .i64 0,.str []] []),
 p (.store (some 5) (.v 6) (.r 0)),
 p (.mov (.k (.int .i64 191)))] [(6,.v 6),(7,.r 0)])
 .ret)
 (.seq
 (.reg false [p (.mov (.v 2)),
 p (.len true (.r 0)),
 p (.bin .gtr (.r 0) (.k (.int .i64 16))),
 p (.mov (.r 0))] [(2,.v 2),(4,.v 4),(6,.v 6),(13,.r 0)])
 (.cond (.v 13)
 (.seq
 (.reg false [p (.build [.int .i64 0,.int .i64 0,.int .i64 0,.int .i64 0,.str []] []),
 p (.store (some 5) (.v 6) (.r 0)),
 p (.mov (.k (.int .i64 1)))] [(6,.v 6),(7,.r 0)])
 .ret)
 .skip)))))
 (.seq
 (.reg false [p (.fad 1 (.v 4)),
 p (.load (none) (.r 0)),
 p (.mov (.v 2)),
 p (.build [.int .i64 0,.int .i64 0,.int .i64 0,.int .i64 0,.str []] [(0,1,.k (.int .i64 3)),(1,1,.r 1),(4,1,.r 0)]),
 p (.store (some 5) (.v 6) (.r 0)),
 p (.mov (.k (.int .i64 0)))] [(6,.v 6),(7,.r 0)])
 .ret)))
def r214:List RV:=[.c 6 (some 5),.t 7]
theorem en214:EnP Tryz.prog 214 22 c214 r214:=a0x (by kernel_rfl) Tryz.func214 (by kernel_rfl) ⟨_,rfl,by kernel_rfl,by kernel_rfl⟩
def c216:C :=
  (.seq
 (.reg false [p (.box 4 (.v 0)),
 p (.box 5 (.v 1)),
 p (.alloc 5 (.agg [.int .i64 0,.int .i64 0,.int .i64 0,.int .i64 0,.str []])),
 p (.mov (.k (.int .i64 0)))] [(2,.v 2),(3,.r 3),(4,.r 2),(6,.r 1)])
 (.seq
 (.block 0
 (.seq
 (.reg false [p (.fad 0 (.v 4)),
 p (.load (none) (.r 0)),
 p (.bin .neq (.r 0) (.k (.int .i64 2))),
 p (.mov (.r 0))] [(2,.v 2),(3,.v 3),(4,.v 4),(6,.v 6),(8,.r 0)])
 (.cond (.v 8)
 (.seq
 (.reg false [p (.build [.int .i64 0,.int .i64 0,.int .i64 0,.int .i64 0,.str []] []),
 p (.store (some 5) (.v 6) (.r 0)),
 p (.mov (.k (.int .i64 191)))] [(6,.v 6),(7,.r 0)])
 .ret)
 (.seq
 (.reg false [p (.fad 1 (.v 4)),
 p (.load (none) (.r 0)),
 p (.fad 1 (.v 3)),
 p (.load (none) (.r 0)),
 p (.bin .geq (.r 2) (.r 0)),
 p (.mov (.r 0))] [(2,.v 2),(3,.v 3),(4,.v 4),(6,.v 6),(13,.r 0)])
 (.cond (.v 13)
 (.seq
 (.reg false [p (.fad 1 (.v 4)),
 p (.load (none) (.r 0)),
 p (.fad 4 (.v 4)),
 p (.load (none) (.r 0)),
 p (.build [.int .i64 0,.int .i64 0,.int .i64 0,.int .i64 0,.str []] [(0,1,.k (.int .i64 4)),(1,1,.r 2),(4,1,.r 0)]),
 p (.store (some 5) (.v 6) (.r 0)),
 p (.mov (.k (.int .i64 0)))] [(6,.v 6),(7,.r 0)])
 .ret)
 .skip)))))
 (.seq
 (.reg true [p (.fad 1 (.v 4)),
 p (.load (none) (.r 0)),
 p (.mov (.v 2)),
 p (.fad 2 (.v 3)),
 p (.load (none) (.r 0)),
 p (.fad 1 (.v 4)),
 p (.load (none) (.r 0)),
 p (.call true (.k (.fn 237 [] [])) [.r 2,.r 0]),
 p (.bsl 1 [.r 0]),
 p (.call true (.k (.fn 236 [] [])) [.r 6,.r 0]),
 p (.fad 4 (.v 4)),
 p (.load (none) (.r 0)),
 p (.build [.int .i64 0,.int .i64 0,.int .i64 0,.int .i64 0,.str []] [(0,1,.k (.int .i64 1)),(1,1,.r 10),(2,1,.r 2),(4,1,.r 0)]),
 p (.store (some 5) (.v 6) (.r 0)),
 p (.mov (.k (.int .i64 0)))] [(6,.v 6),(7,.r 0)])
 .ret)))
def r216:List RV:=[.c 6 (some 5),.t 7]
theorem en216:EnP Tryz.prog 216 37 c216 r216:=a0x (by kernel_rfl) Tryz.func216 (by kernel_rfl) ⟨_,rfl,by kernel_rfl,by kernel_rfl⟩
def c219:C :=
  (.seq
 (.reg false [p (.box 4 (.v 0)),
 p (.box 5 (.v 1)),
 p (.alloc 5 (.agg [.int .i64 0,.int .i64 0,.int .i64 0,.int .i64 0,.str []]))] [(2,.v 2),(3,.r 2),(4,.r 1),(6,.r 0)])
 (.seq
 (.seq
 (.reg true [p (.fad 0 (.v 4)),
 p (.load (none) (.r 0)),
 p (.bin .neq (.r 0) (.k (.int .i64 2))),
 p (.mov (.r 0)),
 ⟨.fad 2 (.v 4),some (0,false),[]⟩,
 ⟨.load (none) (.r 0),some (1,false),[]⟩,
 ⟨.mov (.v 2),some (2,false),[]⟩,
 ⟨.call true (.k (.fn 236 [] [])) [.r 0,.k (.fsl .nil 1 [])],some (3,false),[]⟩,
 ⟨.bin .gtr (.r 2) (.r 0),some (4,false),[]⟩,
 p (.pick (.r 5) (.k (.bool true)) (.r 0))] [(3,.v 3),(4,.v 4),(6,.v 6),(18,.r 0)])
 (.cond (.v 18)
 (.seq
 (.reg false [p (.load (some 5) (.v 4)),
 p (.store (some 5) (.v 6) (.r 0))] [(6,.v 6)])
 .ret)
 .skip))
 (.seq
 (.reg false [p (.load (some 4) (.v 3)),
 p (.load (some 5) (.v 4)),
 p (.fad 2 (.v 4)),
 p (.load (none) (.r 0)),
 p (.call true (.k (.fn 216 [] [])) [.r 3,.r 2,.r 0]),
 p (.mov (.r 0)),
 p (.ext (.r 0) 0),
 p (.ext (.r 1) 1),
 p (.alloc 5 (.agg [.int .i64 0,.int .i64 0,.int .i64 0,.int .i64 0,.str []])),
 p (.store (some 5) (.r 0) (.r 2)),
 p (.mov (.r 2))] [(6,.v 6),(7,.r 2)])
 (.seq
 (.reg false [p (.load (some 5) (.v 7)),
 p (.store (some 5) (.v 6) (.r 0))] [(6,.v 6)])
 .ret))))
def r219:List RV:=[.c 6 (some 5)]
theorem en219:EnP Tryz.prog 219 29 c219 r219:=a0x (by kernel_rfl) Tryz.func219 (by kernel_rfl) ⟨_,rfl,by kernel_rfl,by kernel_rfl⟩
def c217:C :=
  (.seq
 (.reg false [p (.box 5 (.v 0)),
 p (.alloc 5 (.agg [.int .i64 0,.int .i64 0,.int .i64 0,.int .i64 0,.str []]))] [(1,.r 1),(2,.r 0)])
 (.seq
 (.seq
 (.reg false [p (.fad 0 (.v 1)),
 p (.load (none) (.r 0))] [(1,.v 1),(2,.v 2),(4,.r 0)])
 (.block 0
 (.seq
 (.seq
 (.reg false [p (.bin .eql (.v 4) (.k (.int .i64 0))),
 p (.mov (.r 0))] [(1,.v 1),(2,.v 2),(4,.v 4),(5,.r 0)])
 (.cond (.v 5)
 .skip
 (.seq
 (.reg false [p (.bin .eql (.v 4) (.k (.int .i64 1))),
 p (.mov (.r 0))] [(1,.v 1),(2,.v 2),(4,.v 4),(5,.r 0)])
 (.cond (.v 5)
 .skip
 (.reg false [p (.bin .eql (.v 4) (.k (.int .i64 2))),
 p (.mov (.r 0))] [(1,.v 1),(2,.v 2),(5,.r 0)])))))
 (.cond (.v 5)
 (.reg false [p (.fad 0 (.v 1)),
 p (.store (none) (.r 0) (.k (.int .i64 5))),
 p (.fad 2 (.v 1)),
 p (.store (none) (.r 0) (.k (.int .i64 0))),
 p (.fad 3 (.v 1)),
 p (.store (none) (.r 0) (.k (.int .i64 0)))] [(1,.v 1),(2,.v 2)])
 .skip))))
 (.seq
 (.reg false [p (.load (some 5) (.v 1)),
 p (.store (some 5) (.v 2) (.r 0))] [(2,.v 2)])
 .ret)))
def r217:List RV:=[.c 2 (some 5)]
theorem en217:EnP Tryz.prog 217 13 c217 r217:=a0x (by kernel_rfl) Tryz.func217 (by kernel_rfl) ⟨_,rfl,by kernel_rfl,by kernel_rfl⟩
def c220:C :=
  (.seq
 (.reg false [p (.mov (.k (.int .i64 0)))] [(0,.v 0),(1,.v 1)])
 (.seq
 (.reg false [p (.mov (.k (.int .i64 0)))] [(0,.v 0),(1,.v 1),(5,.r 0)])
 (.seq
 (.seq
 (.reg false [p (.mov (.v 0)),
 p (.bin .gtr (.r 0) (.k (.int .i64 0)))] [(0,.v 0),(1,.v 1),(5,.v 5),(9,.r 0)])
 (.cond (.v 9)
 (.reg false [p (.mov (.v 0)),
 p (.mov (.r 0))] [(1,.v 1),(5,.r 0)])
 .skip))
 (.seq
 (.seq
 (.reg false [p (.mov (.v 1)),
 p (.len false (.r 0)),
 p (.mov (.k (.int .i64 0)))] [(5,.v 5),(11,.r 2),(12,.r 1),(13,.r 0)])
 (.block 0
 (.loop
 (.seq
 (.reg false [p (.bin .lss (.v 13) (.v 12))] [(5,.v 5),(11,.v 11),(12,.v 12),(13,.v 13),(14,.r 0)])
 (.seq
 (.cond (.v 14)
 .skip
 (.exit 0))
 (.seq
 (.block 1
 (.seq
 (.reg false [p (.iad 1 (.v 11) (.v 13)),
 p (.load (none) (.r 0)),
 p (.mov (.r 0))] [(5,.v 5),(7,.r 0),(11,.v 11),(12,.v 12),(13,.v 13)])
 (.seq
 (.seq
 (.reg false [p (.mov (.v 5)),
 p (.bin .geq (.r 0) (.k (.int .i64 1099511627776))),
 p (.mov (.r 0)),
 ⟨.mov (.v 7),some (0,false),[]⟩,
 ⟨.bin .geq (.r 0) (.k (.int .i64 1099511627776)),some (1,false),[]⟩,
 p (.pick (.r 2) (.k (.bool true)) (.r 0))] [(5,.v 5),(7,.v 7),(11,.v 11),(12,.v 12),(13,.v 13),(22,.r 0)])
 (.cond (.v 22)
 (.seq
 (.reg false [p (.mov (.k (.int .i64 1099511627776)))] [(4,.r 0)])
 .ret)
 .skip))
 (.seq
 (.reg false [p (.mov (.v 7)),
 p (.bin .gtr (.r 0) (.k (.int .i64 0)))] [(5,.v 5),(7,.v 7),(11,.v 11),(12,.v 12),(13,.v 13),(24,.r 0)])
 (.cond (.v 24)
 (.reg false [p (.mov (.v 5)),
 p (.mov (.v 7)),
 p (.bin .add (.r 1) (.r 0)),
 p (.mov (.r 0))] [(5,.r 0),(11,.v 11),(12,.v 12),(13,.v 13)])
 .skip)))))
 (.reg false [p (.bin .add (.v 13) (.k (.int .i64 1))),
 p (.mov (.r 0))] [(5,.v 5),(11,.v 11),(12,.v 12),(13,.r 0)])))))))
 (.frz
 (.seq
 (.seq
 (.reg false [p (.mov (.v 5)),
 p (.bin .gtr (.r 0) (.k (.int .i64 1099511627776)))] [(5,.v 5),(30,.r 0)])
 (.cond (.v 30)
 (.seq
 (.reg false [p (.mov (.k (.int .i64 1099511627776)))] [(4,.r 0)])
 .ret)
 .skip))
 (.seq
 (.reg false [p (.mov (.v 5)),
 p (.mov (.r 0))] [(4,.r 0)])
 .ret)))))))
def r220:List RV:=[.t 4]
theorem en220:EnP Tryz.prog 220 32 c220 r220:=a0x (by kernel_rfl) Tryz.func220 (by kernel_rfl) ⟨_,rfl,by kernel_rfl,by kernel_rfl⟩
def c221:C :=
  (.seq
 (.reg false [p (.mov (.k (.int .i64 0)))] [(0,.v 0),(1,.v 1)])
 (.seq
 (.seq
 (.reg false [p (.mov (.v 0)),
 p (.bin .lss (.r 0) (.k (.int .i64 1))),
 p (.mov (.r 0)),
 ⟨.mov (.v 1),some (0,false),[]⟩,
 ⟨.bin .lss (.r 0) (.k (.int .i64 1)),some (1,false),[]⟩,
 p (.pick (.r 2) (.k (.bool true)) (.r 0))] [(0,.v 0),(1,.v 1),(11,.r 0)])
 (.cond (.v 11)
 (.seq
 (.reg false [p (.mov (.k (.int .i64 0)))] [(4,.r 0)])
 .ret)
 .skip))
 (.seq
 (.seq
 (.reg false [p (.mov (.v 0)),
 p (.bin .geq (.r 0) (.k (.int .i64 1048576))),
 p (.mov (.r 0)),
 ⟨.mov (.v 1),some (0,false),[]⟩,
 ⟨.bin .gtr (.r 0) (.k (.int .i64 40)),some (1,false),[]⟩,
 p (.pick (.r 2) (.k (.bool true)) (.r 0))] [(0,.v 0),(1,.v 1),(17,.r 0)])
 (.cond (.v 17)
 (.seq
 (.reg false [p (.mov (.k (.int .i64 1048576)))] [(4,.r 0)])
 .ret)
 .skip))
 (.seq
 (.seq
 (.reg false [p (.mov (.k (.int .i64 1)))] [(0,.v 0),(1,.v 1),(5,.r 0)])
 (.block 0
 (.loop
 (.seq
 (.seq
 (.reg false [p (.mov (.v 5)),
 p (.mov (.v 1)),
 p (.bin .lss (.r 1) (.r 0))] [(0,.v 0),(1,.v 1),(5,.v 5),(20,.r 0)])
 (.cond (.v 20)
 .skip
 (.exit 0)))
 (.seq
 (.block 1
 (.reg false [p (.mov (.v 0)),
 p (.bin .mul (.k (.int .i64 2)) (.r 0)),
 p (.mov (.r 0))] [(0,.r 0),(1,.v 1),(5,.v 5)]))
 (.reg false [p (.mov (.v 5)),
 p (.bin .add (.r 0) (.k (.int .i64 1))),
 p (.mov (.r 0))] [(0,.v 0),(1,.v 1),(5,.r 0)]))))))
 (.frz
 (.seq
 (.seq
 (.reg false [p (.mov (.v 0)),
 p (.bin .gtr (.r 0) (.k (.int .i64 1048576)))] [(0,.v 0),(26,.r 0)])
 (.cond (.v 26)
 (.seq
 (.reg false [p (.mov (.k (.int .i64 1048576)))] [(4,.r 0)])
 .ret)
 .skip))
 (.seq
 (.reg false [p (.mov (.v 0)),
 p (.mov (.r 0))] [(4,.r 0)])
 .ret)))))))
def r221:List RV:=[.t 4]
theorem en221:EnP Tryz.prog 221 28 c221 r221:=a0x (by kernel_rfl) Tryz.func221 (by kernel_rfl) ⟨_,rfl,by kernel_rfl,by kernel_rfl⟩
def c164:C :=
  (.seq
 (.reg false [p (.mov (.k (.int .i64 0)))] [(0,.v 0)])
 (.seq
 (.reg false [p (.mov (.v 0)),
 p (.call true (.k (.fn 220 [] [])) [.r 0,.k (.fsl .nil 1 [])]),
 p (.mov (.r 0))] [(2,.r 0)])
 .ret))
def r164:List RV:=[.t 2]
theorem en164:EnP Tryz.prog 164 5 c164 r164:=a0x (by kernel_rfl) Tryz.func164 (by kernel_rfl) ⟨_,rfl,by kernel_rfl,by kernel_rfl⟩
def c133:C :=
  (.seq
 (.reg false [p (.box 4 (.v 0)),
 p (.box 5 (.v 1)),
 p (.mov (.k (.bool false)))] [(2,.r 2),(3,.r 1)])
 (.seq
 (.seq
 (.reg false [p (.load (some 5) (.v 3)),
 p (.call true (.k (.fn 179 [] [])) [.r 0]),
 p (.un .not (.r 0)),
 p (.mov (.r 0)),
 ⟨.fad 1 (.v 3),some (0,false),[]⟩,
 ⟨.load (none) (.r 0),some (1,false),[]⟩,
 ⟨.fad 1 (.v 2),some (2,false),[]⟩,
 ⟨.load (none) (.r 0),some (3,false),[]⟩,
 ⟨.bin .gtr (.r 2) (.r 0),some (4,false),[]⟩,
 p (.pick (.r 5) (.k (.bool true)) (.r 0))] [(2,.v 2),(3,.v 3),(14,.r 0)])
 (.cond (.v 14)
 (.seq
 (.reg false [p (.mov (.k (.bool false)))] [(4,.r 0)])
 .ret)
 .skip))
 (.seq
 (.seq
 (.reg false [p (.fad 0 (.v 3)),
 p (.load (none) (.r 0)),
 p (.bin .eql (.r 0) (.k (.int .i64 0))),
 p (.mov (.r 0)),
 ⟨.fad 1 (.v 3),some (0,true),[]⟩,
 ⟨.load (none) (.r 0),some (1,true),[]⟩,
 ⟨.bin .neq (.r 0) (.k (.int .i64 0)),some (2,true),[]⟩,
 ⟨.mov (.r 0),some (3,true),[]⟩,
 ⟨.fad 2 (.v 3),some (0,false),[]⟩,
 ⟨.load (none) (.r 0),some (1,false),[]⟩,
 ⟨.bin .neq (.r 0) (.k (.int .i64 0)),some (2,false),[]⟩,
 ⟨.pick (.r 3) (.k (.bool true)) (.r 0),some (7,true),[]⟩,
 p (.pick (.r 8) (.r 0) (.k (.bool false)))] [(2,.v 2),(3,.v 3),(27,.r 0)])
 (.cond (.v 27)
 (.seq
 (.reg false [p (.mov (.k (.bool false)))] [(4,.r 0)])
 .ret)
 .skip))
 (.seq
 (.seq
 (.reg false [p (.fad 0 (.v 3)),
 p (.load (none) (.r 0)),
 p (.bin .eql (.r 0) (.k (.int .i64 1))),
 p (.mov (.r 0)),
 ⟨.fad 1 (.v 3),some (0,true),[]⟩,
 ⟨.load (none) (.r 0),some (1,true),[]⟩,
 ⟨.fad 1 (.v 2),some (2,true),[]⟩,
 ⟨.load (none) (.r 0),some (3,true),[]⟩,
 ⟨.bin .geq (.r 2) (.r 0),some (4,true),[]⟩,
 p (.pick (.r 5) (.r 0) (.k (.bool false)))] [(2,.v 2),(3,.v 3),(37,.r 0)])
 (.cond (.v 37)
 (.seq
 (.reg false [p (.mov (.k (.bool false)))] [(4,.r 0)])
 .ret)
 .skip))
 (.seq
 (.seq
 (.reg false [p (.fad 0 (.v 3)),
 p (.load (none) (.r 0)),
 p (.bin .eql (.r 0) (.k (.int .i64 2))),
 p (.mov (.r 0)),
 ⟨.fad 0 (.v 3),some (0,false),[]⟩,
 ⟨.load (none) (.r 0),some (1,false),[]⟩,
 ⟨.bin .eql (.r 0) (.k (.int .i64 3)),some (2,false),[]⟩,
 p (.pick (.r 3) (.k (.bool true)) (.r 0)),
 p (.mov (.r 0)),
 ⟨.fad 1 (.v 3),some (0,true),[]⟩,
 ⟨.load (none) (.r 0),some (1,true),[]⟩,
 ⟨.bin .lss (.r 0) (.k (.int .i64 1)),some (2,true),[]⟩,
 p (.pick (.r 3) (.r 0) (.k (.bool false)))] [(2,.v 2),(3,.v 3),(50,.r 0)])
 (.cond (.v 50)
 (.seq
 (.reg false [p (.mov (.k (.bool false)))] [(4,.r 0)])
 .ret)
 .skip))
 (.seq
 (.seq
 (.reg false [p (.fad 0 (.v 3)),
 p (.load (none) (.r 0)),
 p (.bin .eql (.r 0) (.k (.int .i64 4))),
 p (.mov (.r 0)),
 ⟨.fad 1 (.v 3),some (0,true),[]⟩,
 ⟨.load (none) (.r 0),some (1,true),[]⟩,
 ⟨.fad 1 (.v 2),some (2,true),[]⟩,
 ⟨.load (none) (.r 0),some (3,true),[]⟩,
 ⟨.bin .neq (.r 2) (.r 0),some (4,true),[]⟩,
 p (.pick (.r 5) (.r 0) (.k (.bool false)))] [(3,.v 3),(60,.r 0)])
 (.cond (.v 60)
 (.seq
 (.reg false [p (.mov (.k (.bool false)))] [(4,.r 0)])
 .ret)
 .skip))
 (.seq
 (.reg false [p (.fad 2 (.v 3)),
 p (.load (none) (.r 0)),
 p (.bin .eql (.r 0) (.k (.int .i64 0))),
 p (.mov (.r 0)),
 ⟨.fad 0 (.v 3),some (0,false),[]⟩,
 ⟨.load (none) (.r 0),some (1,false),[]⟩,
 ⟨.bin .eql (.r 0) (.k (.int .i64 1)),some (2,false),[]⟩,
 p (.pick (.r 3) (.k (.bool true)) (.r 0)),
 p (.mov (.r 0)),
 ⟨.fad 0 (.v 3),some (0,false),[]⟩,
 ⟨.load (none) (.r 0),some (1,false),[]⟩,
 ⟨.bin .eql (.r 0) (.k (.int .i64 2)),some (2,false),[]⟩,
 p (.pick (.r 3) (.k (.bool true)) (.r 0)),
 p (.mov (.r 0))] [(4,.r 0)])
 .ret)))))))
def r133:List RV:=[.t 4]
theorem en133:EnP Tryz.prog 133 74 c133 r133:=a0x (by kernel_rfl) Tryz.func133 (by kernel_rfl) ⟨_,rfl,by kernel_rfl,by kernel_rfl⟩
def c171:C :=
  (.seq
 (.reg false [p (.box 5 (.v 0)),
 p (.alloc 5 (.agg [.int .i64 0,.int .i64 0,.int .i64 0,.int .i64 0,.str []]))] [(1,.r 1),(2,.r 0)])
 (.seq
 (.seq
 (.reg false [p (.fad 0 (.v 1)),
 p (.load (none) (.r 0)),
 p (.bin .eql (.r 0) (.k (.int .i64 0)))] [(1,.v 1),(2,.v 2),(5,.r 0)])
 (.cond (.v 5)
 (.reg false [p (.fad 0 (.v 1)),
 p (.store (none) (.r 0) (.k (.int .i64 1)))] [(1,.v 1),(2,.v 2)])
 .skip))
 (.seq
 (.reg false [p (.load (some 5) (.v 1)),
 p (.store (some 5) (.v 2) (.r 0))] [(2,.v 2)])
 .ret)))
def r171:List RV:=[.c 2 (some 5)]
theorem en171:EnP Tryz.prog 171 8 c171 r171:=a0x (by kernel_rfl) Tryz.func171 (by kernel_rfl) ⟨_,rfl,by kernel_rfl,by kernel_rfl⟩
def c165:C :=
  (.seq
 (.reg false [p (.box 4 (.v 0)),
 p (.box 5 (.v 1)),
 p (.alloc 5 (.agg [.int .i64 0,.int .i64 0,.int .i64 0,.int .i64 0,.str []])),
 p (.mov (.k (.int .i64 0)))] [(2,.v 2),(3,.v 3),(4,.r 3),(5,.r 2),(8,.r 1)])
 (.seq
 (.seq
 (.reg false [p (.mov (.v 3)),
 p (.bin .lss (.r 0) (.k (.int .i64 1))),
 p (.mov (.r 0)),
 ⟨.mov (.v 3),some (0,false),[]⟩,
 ⟨.bin .gtr (.r 0) (.k (.int .i64 1099511627776)),some (1,false),[]⟩,
 p (.pick (.r 2) (.k (.bool true)) (.r 0))] [(2,.v 2),(3,.v 3),(4,.v 4),(5,.v 5),(8,.v 8),(15,.r 0)])
 (.cond (.v 15)
 (.seq
 (.reg false [p (.build [.int .i64 0,.int .i64 0,.int .i64 0,.int .i64 0,.str []] []),
 p (.store (some 5) (.v 8) (.r 0)),
 p (.mov (.k (.int .i64 1)))] [(8,.v 8),(9,.r 0)])
 .ret)
 .skip))
 (.seq
 (.seq
 (.reg true [p (.fad 0 (.v 5)),
 p (.load (none) (.r 0)),
 p (.bin .neq (.r 0) (.k (.int .i64 1))),
 p (.mov (.r 0)),
 ⟨.fad 2 (.v 5),some (0,false),[]⟩,
 ⟨.load (none) (.r 0),some (1,false),[]⟩,
 ⟨.mov (.v 2),some (2,false),[]⟩,
 ⟨.call true (.k (.fn 164 [] [])) [.r 0],some (3,false),[]⟩,
 ⟨.bin .gtr (.r 2) (.r 0),some (4,false),[]⟩,
 p (.pick (.r 5) (.k (.bool true)) (.r 0))] [(2,.v 2),(3,.v 3),(4,.v 4),(5,.v 5),(8,.v 8),(26,.r 0)])
 (.cond (.v 26)
 (.seq
 (.reg false [p (.build [.int .i64 0,.int .i64 0,.int .i64 0,.int .i64 0,.str []] []),
 p (.store (some 5) (.v 8) (.r 0)),
 p (.mov (.k (.int .i64 192)))] [(8,.v 8),(9,.r 0)])
 .ret)
 .skip))
 (.seq
 (.reg false [p (.fad 0 (.v 5)),
 p (.store (none) (.r 0) (.k (.int .i64 2)))] [(2,.v 2),(3,.v 3),(4,.v 4),(5,.v 5),(8,.v 8)])
 (.seq
 (.reg false [p (.fad 1 (.v 5)),
 p (.load (none) (.r 0)),
 p (.bin .add (.r 0) (.k (.int .i64 1))),
 p (.fad 1 (.v 5)),
 p (.store (none) (.r 0) (.r 1))] [(2,.v 2),(3,.v 3),(4,.v 4),(5,.v 5),(8,.v 8)])
 (.seq
 (.reg false [p (.mov (.v 2)),
 p (.fad 3 (.v 4)),
 p (.load (none) (.r 0)),
 p (.bsl 1 [.r 0]),
 p (.call true (.k (.fn 220 [] [])) [.r 3,.r 0]),
 p (.fad 2 (.v 5)),
 p (.store (none) (.r 0) (.r 1))] [(3,.v 3),(5,.v 5),(8,.v 8)])
 (.seq
 (.reg false [p (.mov (.v 3)),
 p (.fad 3 (.v 5)),
 p (.store (none) (.r 0) (.r 1))] [(5,.v 5),(8,.v 8)])
 (.seq
 (.reg false [p (.load (some 5) (.v 5)),
 p (.store (some 5) (.v 8) (.r 0)),
 p (.mov (.k (.int .i64 0)))] [(8,.v 8),(9,.r 0)])
 .ret))))))))
def r165:List RV:=[.c 8 (some 5),.t 9]
theorem en165:EnP Tryz.prog 165 42 c165 r165:=a0x (by kernel_rfl) Tryz.func165 (by kernel_rfl) ⟨_,rfl,by kernel_rfl,by kernel_rfl⟩
def c166:C :=
  (.seq
 (.reg false [p (.box 4 (.v 0)),
 p (.box 5 (.v 1)),
 p (.alloc 5 (.agg [.int .i64 0,.int .i64 0,.int .i64 0,.int .i64 0,.str []])),
 p (.mov (.k (.int .i64 0)))] [(2,.v 2),(3,.r 3),(4,.r 2),(6,.r 1)])
 (.seq
 (.seq
 (.reg false [p (.fad 0 (.v 4)),
 p (.load (none) (.r 0)),
 p (.bin .neq (.r 0) (.k (.int .i64 2)))] [(2,.v 2),(3,.v 3),(4,.v 4),(6,.v 6),(10,.r 0)])
 (.cond (.v 10)
 (.seq
 (.reg false [p (.build [.int .i64 0,.int .i64 0,.int .i64 0,.int .i64 0,.str []] []),
 p (.store (some 5) (.v 6) (.r 0)),
 p (.mov (.k (.int .i64 191)))] [(6,.v 6),(7,.r 0)])
 .ret)
 .skip))
 (.seq
 (.reg false [p (.mov (.v 2)),
 p (.fad 3 (.v 3)),
 p (.load (none) (.r 0)),
 p (.bsl 1 [.r 0]),
 p (.call true (.k (.fn 220 [] [])) [.r 3,.r 0]),
 p (.fad 2 (.v 4)),
 p (.store (none) (.r 0) (.r 1))] [(4,.v 4),(6,.v 6)])
 (.seq
 (.reg false [p (.load (some 5) (.v 4)),
 p (.store (some 5) (.v 6) (.r 0)),
 p (.mov (.k (.int .i64 0)))] [(6,.v 6),(7,.r 0)])
 .ret))))
def r166:List RV:=[.c 6 (some 5),.t 7]
theorem en166:EnP Tryz.prog 166 19 c166 r166:=a0x (by kernel_rfl) Tryz.func166 (by kernel_rfl) ⟨_,rfl,by kernel_rfl,by kernel_rfl⟩
def c167:C :=
  (.seq
 (.reg false [p (.box 5 (.v 0)),
 p (.alloc 5 (.agg [.int .i64 0,.int .i64 0,.int .i64 0,.int .i64 0,.str []])),
 p (.mov (.k (.int .i64 0)))] [(1,.v 1),(2,.r 2),(4,.r 1)])
 (.seq
 (.seq
 (.reg false [p (.fad 0 (.v 2)),
 p (.load (none) (.r 0)),
 p (.bin .neq (.r 0) (.k (.int .i64 2)))] [(1,.v 1),(2,.v 2),(4,.v 4),(8,.r 0)])
 (.cond (.v 8)
 (.seq
 (.reg false [p (.build [.int .i64 0,.int .i64 0,.int .i64 0,.int .i64 0,.str []] []),
 p (.store (some 5) (.v 4) (.r 0)),
 p (.mov (.k (.int .i64 191)))] [(4,.v 4),(5,.r 0)])
 .ret)
 .skip))
 (.seq
 (.seq
 (.reg false [p (.mov (.v 1)),
 p (.len true (.r 0)),
 p (.bin .gtr (.r 0) (.k (.int .i64 16)))] [(1,.v 1),(2,.v 2),(4,.v 4),(12,.r 0)])
 (.cond (.v 12)
 (.seq
 (.reg false [p (.build [.int .i64 0,.int .i64 0,.int .i64 0,.int .i64 0,.str []] []),
 p (.store (some 5) (.v 4) (.r 0)),
 p (.mov (.k (.int .i64 1)))] [(4,.v 4),(5,.r 0)])
 .ret)
 .skip))
 (.seq
 (.reg false [p (.fad 0 (.v 2)),
 p (.store (none) (.r 0) (.k (.int .i64 3)))] [(1,.v 1),(2,.v 2),(4,.v 4)])
 (.seq
 (.reg false [p (.fad 2 (.v 2)),
 p (.store (none) (.r 0) (.k (.int .i64 0)))] [(1,.v 1),(2,.v 2),(4,.v 4)])
 (.seq
 (.reg false [p (.fad 3 (.v 2)),
 p (.store (none) (.r 0) (.k (.int .i64 0)))] [(1,.v 1),(2,.v 2),(4,.v 4)])
 (.seq
 (.reg false [p (.mov (.v 1)),
 p (.fad 4 (.v 2)),
 p (.store (none) (.r 0) (.r 1))] [(2,.v 2),(4,.v 4)])
 (.seq
 (.reg false [p (.load (some 5) (.v 2)),
 p (.store (some 5) (.v 4) (.r 0)),
 p (.mov (.k (.int .i64 0)))] [(4,.v 4),(5,.r 0)])
 .ret))))))))
def r167:List RV:=[.c 4 (some 5),.t 5]
theorem en167:EnP Tryz.prog 167 20 c167 r167:=a0x (by kernel_rfl) Tryz.func167 (by kernel_rfl) ⟨_,rfl,by kernel_rfl,by kernel_rfl⟩
def c168:C :=
  (.seq
 (.reg false [p (.box 4 (.v 0)),
 p (.box 5 (.v 1)),
 p (.alloc 5 (.agg [.int .i64 0,.int .i64 0,.int .i64 0,.int .i64 0,.str []])),
 p (.mov (.k (.int .i64 0)))] [(2,.v 2),(3,.r 3),(4,.r 2),(6,.r 1)])
 (.seq
 (.seq
 (.reg false [p (.fad 0 (.v 4)),
 p (.load (none) (.r 0)),
 p (.bin .neq (.r 0) (.k (.int .i64 2)))] [(2,.v 2),(3,.v 3),(4,.v 4),(6,.v 6),(10,.r 0)])
 (.cond (.v 10)
 (.seq
 (.reg false [p (.build [.int .i64 0,.int .i64 0,.int .i64 0,.int .i64 0,.str []] []),
 p (.store (some 5) (.v 6) (.r 0)),
 p (.mov (.k (.int .i64 191)))] [(6,.v 6),(7,.r 0)])
 .ret)
 .skip))
 (.seq
 (.reg false [p (.fad 3 (.v 4)),
 p (.store (none) (.r 0) (.k (.int .i64 0)))] [(2,.v 2),(3,.v 3),(4,.v 4),(6,.v 6)])
 (.seq
 (.seq
 (.reg false [p (.fad 1 (.v 4)),
 p (.load (none) (.r 0)),
 p (.fad 1 (.v 3)),
 p (.load (none) (.r 0)),
 p (.bin .geq (.r 2) (.r 0))] [(2,.v 2),(3,.v 3),(4,.v 4),(6,.v 6),(17,.r 0)])
 (.cond (.v 17)
 (.seq
 (.reg false [p (.fad 0 (.v 4)),
 p (.store (none) (.r 0) (.k (.int .i64 4)))] [(4,.v 4),(6,.v 6)])
 (.seq
 (.reg false [p (.fad 2 (.v 4)),
 p (.store (none) (.r 0) (.k (.int .i64 0)))] [(4,.v 4),(6,.v 6)])
 (.seq
 (.reg false [p (.load (some 5) (.v 4)),
 p (.store (some 5) (.v 6) (.r 0)),
 p (.mov (.k (.int .i64 0)))] [(6,.v 6),(7,.r 0)])
 .ret)))
 .skip))
 (.seq
 (.reg false [p (.fad 0 (.v 4)),
 p (.store (none) (.r 0) (.k (.int .i64 1)))] [(2,.v 2),(3,.v 3),(4,.v 4),(6,.v 6)])
 (.seq
 (.reg false [p (.mov (.v 2)),
 p (.fad 2 (.v 3)),
 p (.load (none) (.r 0)),
 p (.fad 1 (.v 4)),
 p (.load (none) (.r 0)),
 p (.call true (.k (.fn 221 [] [])) [.r 2,.r 0]),
 p (.bsl 1 [.r 0]),
 p (.call true (.k (.fn 220 [] [])) [.r 6,.r 0]),
 p (.fad 2 (.v 4)),
 p (.store (none) (.r 0) (.r 1))] [(4,.v 4),(6,.v 6)])
 (.seq
 (.reg false [p (.load (some 5) (.v 4)),
 p (.store (some 5) (.v 6) (.r 0)),
 p (.mov (.k (.int .i64 0)))] [(6,.v 6),(7,.r 0)])
 .ret)))))))
def r168:List RV:=[.c 6 (some 5),.t 7]
theorem en168:EnP Tryz.prog 168 32 c168 r168:=a0x (by kernel_rfl) Tryz.func168 (by kernel_rfl) ⟨_,rfl,by kernel_rfl,by kernel_rfl⟩
def c110:C :=
  (.seq
 (.reg false [p (.box 4 (.v 0)),
 p (.box 5 (.v 1)),
 p (.alloc 5 (.agg [.int .i64 0,.int .i64 0,.int .i64 0,.int .i64 0,.str []]))] [(2,.v 2),(3,.r 2),(4,.r 1),(6,.r 0)])
 (.seq
 (.seq
 (.reg true [p (.fad 0 (.v 4)),
 p (.load (none) (.r 0)),
 p (.bin .eql (.r 0) (.k (.int .i64 2))),
 p (.mov (.r 0)),
 ⟨.fad 2 (.v 4),some (0,true),[]⟩,
 ⟨.load (none) (.r 0),some (1,true),[]⟩,
 ⟨.mov (.v 2),some (2,true),[]⟩,
 ⟨.call true (.k (.fn 164 [] [])) [.r 0],some (3,true),[]⟩,
 ⟨.bin .leq (.r 2) (.r 0),some (4,true),[]⟩,
 p (.pick (.r 5) (.r 0) (.k (.bool false)))] [(3,.v 3),(4,.v 4),(6,.v 6),(18,.r 0)])
 (.cond (.v 18)
 (.seq
 (.reg false [p (.load (some 4) (.v 3)),
 p (.load (some 5) (.v 4)),
 p (.fad 2 (.v 4)),
 p (.load (none) (.r 0)),
 p (.call true (.k (.fn 168 [] [])) [.r 3,.r 2,.r 0]),
 p (.mov (.r 0)),
 p (.ext (.r 0) 0),
 p (.ext (.r 1) 1),
 p (.alloc 5 (.agg [.int .i64 0,.int .i64 0,.int .i64 0,.int .i64 0,.str []])),
 p (.store (some 5) (.r 0) (.r 2)),
 p (.mov (.r 2))] [(6,.v 6),(7,.r 2)])
 (.seq
 (.reg false [p (.load (some 5) (.v 7)),
 p (.store (some 5) (.v 6) (.r 0))] [(6,.v 6)])
 .ret))
 .skip))
 (.seq
 (.reg false [p (.load (some 5) (.v 4)),
 p (.store (some 5) (.v 6) (.r 0))] [(6,.v 6)])
 .ret)))
def r110:List RV:=[.c 6 (some 5)]
theorem en110:EnP Tryz.prog 110 29 c110 r110:=a0x (by kernel_rfl) Tryz.func110 (by kernel_rfl) ⟨_,rfl,by kernel_rfl,by kernel_rfl⟩
def c169:C :=
  (.seq
 (.reg false [p (.box 5 (.v 0)),
 p (.alloc 5 (.agg [.int .i64 0,.int .i64 0,.int .i64 0,.int .i64 0,.str []]))] [(1,.r 1),(2,.r 0)])
 (.seq
 (.seq
 (.reg false [p (.fad 0 (.v 1)),
 p (.load (none) (.r 0)),
 p (.bin .eql (.r 0) (.k (.int .i64 0))),
 p (.mov (.r 0)),
 ⟨.fad 0 (.v 1),some (0,false),[]⟩,
 ⟨.load (none) (.r 0),some (1,false),[]⟩,
 ⟨.bin .eql (.r 0) (.k (.int .i64 1)),some (2,false),[]⟩,
 p (.pick (.r 3) (.k (.bool true)) (.r 0)),
 p (.mov (.r 0)),
 ⟨.fad 0 (.v 1),some (0,false),[]⟩,
 ⟨.load (none) (.r 0),some (1,false),[]⟩,
 ⟨.bin .eql (.r 0) (.k (.int .i64 2)),some (2,false),[]⟩,
 p (.pick (.r 3) (.k (.bool true)) (.r 0))] [(1,.v 1),(2,.v 2),(15,.r 0)])
 (.cond (.v 15)
 (.seq
 (.reg false [p (.fad 0 (.v 1)),
 p (.store (none) (.r 0) (.k (.int .i64 5)))] [(1,.v 1),(2,.v 2)])
 (.seq
 (.reg false [p (.fad 2 (.v 1)),
 p (.store (none) (.r 0) (.k (.int .i64 0)))] [(1,.v 1),(2,.v 2)])
 (.reg false [p (.fad 3 (.v 1)),
 p (.store (none) (.r 0) (.k (.int .i64 0)))] [(1,.v 1),(2,.v 2)])))
 .skip))
 (.seq
 (.reg false [p (.load (some 5) (.v 1)),
 p (.store (some 5) (.v 2) (.r 0))] [(2,.v 2)])
 .ret)))
def r169:List RV:=[.c 2 (some 5)]
theorem en169:EnP Tryz.prog 169 20 c169 r169:=a0x (by kernel_rfl) Tryz.func169 (by kernel_rfl) ⟨_,rfl,by kernel_rfl,by kernel_rfl⟩
section
abbrev Str:=List UInt8
structure Task where
  needs:List Int
  tries:Int
  wait:Int
  lease:Int
structure Dag where
  name:Str
  tasks:List Task
structure Stt where
  is:Int
  tried:Int
  due:Int
  token:Int
  result:Str
structure Rn where
  key:Str
  dag:Dag
  is:Int
  states:List Stt
structure Wd where
  now:Int
  token:Int
  dags:List Dag
  runs:List Rn
structure Cmd where
  kind:Int
  key:Str
  name:Str
  token:Int
  time:Int
  text:Str
  dag:Dag
structure Ans where
  why:Int
  key:Str
  task:Int
  token:Int
  is:Int
  states:List Stt
def vI (l:List Int):List V:=mv (V.int .i64) l
def vB (l:List Bool):List V:=mv V.bool l
def a0q (t:Task):V:=.agg [.fsl .loose 1 (vI t.needs),.int .i64 t.tries,.int .i64 t.wait,.int .i64 t.lease]
def a0j (l:List Task):V:=.fsl .loose 4 (mv a0q l)
def dagV (d:Dag):V:=.agg [.str d.name,a0j d.tasks]
def sttV (s:Stt):V:=.agg [.int .i64 s.is,.int .i64 s.tried,.int .i64 s.due,.int .i64 s.token,.str s.result]
def a0h (l:List Stt):V:=.fsl .loose 5 (mv sttV l)
def rnV (r:Rn):V:=.agg [.str r.key,.str r.dag.name,a0j r.dag.tasks,.int .i64 r.is,a0h r.states]
def wdV (w:Wd):V:=.agg [.int .i64 w.now,.int .i64 w.token,.fsl .loose 2 (mv dagV w.dags),.fsl .loose 5 (mv rnV w.runs)]
def cmdV (c:Cmd):V:=.agg [.int .i64 c.kind,.str c.key,.str c.name,.int .i64 c.token,.int .i64 c.time,.str c.text,.str c.dag.name,a0j c.dag.tasks]
def ansV (a:Ans):V:=.agg [.int .i64 a.why,.str a.key,.int .i64 a.task,.int .i64 a.token,.int .i64 a.is,a0h a.states]
section
variable {l:List Int}
theorem a2s:a0b (vI l)=true:=a0a fun _ => rfl
theorem a5t {l:List Bool}:a0b (vB l)=true:=a0a fun _ => rfl
theorem d5l:loL (vI l)=vI l:=a0l fun _ => by rw [lo]
theorem d9o {l:List Bool}:loL (vB l)=vB l:=a0l fun _ => by rw [lo]
end
theorem a0u (t:Task):(a0q t).closed=true:=by simp [a0q,V.closed,a0b,a2s]
theorem b9o (t:Task):lo (a0q t)=a0q t:=by simp [a0q,lo,loL,d5l]
theorem a0o (l:List Task):(a0j l).closed=true:=by simp [a0j,V.closed,a0a a0u]
theorem a1a (l:List Task):lo (a0j l)=a0j l:=by simp [a0j,lo,a0l b9o]
theorem a0i (d:Dag):(dagV d).closed=true:=by simp [dagV,V.closed,a0b,a0o]
theorem a0y (d:Dag):lo (dagV d)=dagV d:=by simp [dagV,lo,loL,a1a]
theorem a0e (s:Stt):(sttV s).closed=true:=by simp [sttV,V.closed,a0b]
theorem a0n (s:Stt):lo (sttV s)=sttV s:=by simp [sttV,lo,loL]
theorem a6w (l:List Stt):(a0h l).closed=true:=by simp [a0h,V.closed,a0a a0e]
theorem c0i (l:List Stt):lo (a0h l)=a0h l:=by simp [a0h,lo,a0l a0n]
theorem a0g (r:Rn):(rnV r).closed=true:=by simp [rnV,V.closed,a0b,a0o,a6w]
theorem a1i (r:Rn):lo (rnV r)=rnV r:=by simp [rnV,lo,loL,a1a,c0i]
theorem a1n (w:Wd):(wdV w).closed=true:=by simp [wdV,V.closed,a0b,a0a a0i,a0a a0g]
theorem d1j (w:Wd):lo (wdV w)=wdV w:=by simp [wdV,lo,loL,a0l a0y,a0l a1i]
theorem a3y (c:Cmd):(cmdV c).closed=true:=by simp [cmdV,V.closed,a0b,a0o]
theorem b7x (c:Cmd):lo (cmdV c)=cmdV c:=by simp [cmdV,lo,loL,a1a]
theorem a5b (a:Ans):(ansV a).closed=true:=by simp [ansV,V.closed,a0b,a6w]
theorem c4o (a:Ans):lo (ansV a)=ansV a:=by simp [ansV,lo,loL,c0i]
/-! As arguments. -/
def yI:Ty:=.i .i64
def yIs:Ty:=.l 1 8 yI
def d0c:Ty:=.st (.cons yIs (.cons yI (.cons yI (.cons yI .nil))))
def d1g:Ty:=.l 4 48 d0c
def fDag (r:Ty):Ty:=.cons .s (.cons d1g r)
def i64 (n:Int):Prop:=-9223372036854775808≤n∧n≤9223372036854775807
def c3q (t:Task):Prop:=(∀ x∈t.needs,i64 x)∧t.needs.length*8≤reachBytes∧i64 t.tries∧i64 t.wait∧i64 t.lease
def c5y (l:List Task):Prop:=l.length*48≤reachBytes∧∀ t∈l,c3q t
def d6z (s:Str):Prop:=s.length≤reachBytes
def d7w (d:Dag):Prop:=d6z d.name∧c5y d.tasks
theorem c1a {vs:List V} (h:TyV yI vs):∃ n,vs=[.int .i64 n]∧i64 n:=h
theorem c8v {vs:List V} (h:TyV .s vs):∃ s,vs=[.str s]∧d6z s:=h
theorem d7k {vs:List V} (h:TyV yIs vs):∃ l,vs=[.fsl .loose 1 (vI l)]∧l.length*8≤reachBytes∧∀ x∈l,i64 x :=
  b8t (e:=yI) (f:=V.int .i64) (q:=i64) (fun us ⟨x,hx,hb⟩ => ⟨x,by rw [hx]; rfl,hb⟩) h
theorem d0t {us:List V} (h:TyV d0c us):∃ t,el d0c us=a0q t∧c3q t:=by
  obtain ⟨u1,w1,rfl,h1,u2,w2,rfl,h2,u3,w3,rfl,h3,u4,w4,rfl,h4,rfl⟩:=h
  obtain ⟨l,rfl,q1,q2⟩:=d7k h1
  obtain ⟨a,rfl,qa⟩:=c1a h2
  obtain ⟨b,rfl,qb⟩:=c1a h3
  obtain ⟨c,rfl,qc⟩:=c1a h4
  exact ⟨⟨l,a,b,c⟩,rfl,q2,q1,qa,qb,qc⟩
theorem c3l {vs:List V} (h:TyV d1g vs):∃ l,vs=[a0j l]∧c5y l:=by
  obtain ⟨l,h1,h2,h3⟩:=b8t (e:=d0c) (f:=a0q) (q:=c3q) (fun us hu => d0t hu) h
  exact ⟨l,h1,h2,h3⟩
theorem d2p {r:Ty} {vs:List V} (h:TyV (fDag r) vs):∃ d ws,vs=.str d.name::a0j d.tasks::ws∧d7w d∧TyV r ws:=by
  obtain ⟨u1,w1,rfl,h1,u2,w2,rfl,h2,h3⟩:=h
  obtain ⟨s,rfl,q1⟩:=c8v h1
  obtain ⟨l,rfl,q2⟩:=c3l h2
  exact ⟨⟨s,l⟩,w2,rfl,⟨q1,q2⟩,h3⟩
end
section
theorem c8j {P:Program} (hm:P.follows .mixedOrders=true) {N:Nat} {c:C} {code:Code} {σ:Sg} {H:Hp} {Q:QA} {g:G} {a:Act} {w:World} {Q':Exit→Act→World→Prop} (hfl:c.flat=true)
    (hc:chkC P N code c=true) (h:evX P c σ H Q) (hs:RS g H.m w) (hf:∀ id,H.n≤id→g.ι id=none) (hr:RA none g σ a N w)
    (k:∀ e a' w',Post none g H w N Q e a' w'→Q' e a' w'):code.wpIn (Fw none) 0 P Q' a w :=
  wpIn_mono (b5l hm (.inr hfl) hc (ofX h) hs hf hr) k
theorem Ext.bare {g g':G} {m':Hm} {w w':World} (h:Ext g (fun _ => none) w g' m' w'):Bel w w' :=
  ⟨h.size,fun b hb => h.old b hb (fun ⟨_,_,_,_,k,_⟩ => by cases k),h.os,h.tape,h.output⟩
theorem Bel.trans {a b c:World} (h:Bel a b) (k:Bel b c):Bel a c :=
  ⟨Nat.le_trans h.size k.size,fun i hi => (k.old i (by have:=h.size; omega)).trans (h.old i hi),k.os.trans h.os,k.tape.trans h.tape,k.output.trans h.output⟩
def a8g:Nat→List V→List (List V)
  | _,[] => []
  | i,v::vs => [.int .i64 i,v]::a8g (i+1) vs
theorem a7d:∀ {l:List V} {i k:Nat},(a8g i l)[k]?=(l[k]?).map fun v => [.int .i64 ((i+k:Nat):Int),v]
  | [],i,k => by simp [a8g]
  | v::vs,i,0 => by simp [a8g]
  | v::vs,i,k+1 => by
    simp only [a8g,List.getElem?_cons_succ]
    rw [a7d,show i+1+k=i+(k+1) by omega]
theorem a6q:∀ {l:List V} {i:Nat},(a8g i l).length=l.length
  | [],i => rfl
  | v::vs,i => by simp [a8g,a6q]
theorem b1n {l:List V} {i:Nat}:∀ el∈a8g i l,el.length=2:=by
  induction l generalizing i with
  | nil => simp [a8g]
  | cons v vs ih => intro el h; simp only [a8g,List.mem_cons] at h; rcases h with rfl | h; rfl; exact ih el h
theorem RA.reset {g:G} {σ σ':Sg} {a:Act} {N:Nat} {w w':World} (h:RA none g σ a N w) (hs:∀ t v,find t σ'=some v→find t σ=some v∧v.closed=true):RA none ⟨fun _ => none,g.F⟩ σ' a N w' :=
  ⟨fun t v ht => by obtain ⟨k1,k2⟩:=hs t v ht; exact R.closed (g:=g) (g':=⟨fun _ => none,g.F⟩) (fun _ _ k => k) _ _ k2 (h.vR t v k1),h.sizeA,by rw [h.defs.none]; exact .nil (by simp)⟩
theorem RG.reset {de:List Deferred} {g:G} {σ σ':Sg} {dl:List (Option Nat)} {env:List V} {a:Act} {N:Nat} (h:RG de g σ dl env a N) (hs:∀ t v,find t σ'=some v→find t σ=some v∧v.closed=true) (he:∀ d v,nth d env=some v→v.closed=true) :
    RG de ⟨fun _ => none,g.F⟩ σ' dl env a N :=
  ⟨fun t d v k1 k2 => R.closed (g:=g) (g':=⟨fun _ => none,g.F⟩) (fun _ _ k => k) _ _ (he d v k2) (h.eR t d v k1 k2),fun t v k1 k2 => by obtain ⟨k3,k4⟩:=hs t v k2; exact R.closed (g:=g) (g':=⟨fun _ => none,g.F⟩) (fun _ _ k => k) _ _ k4 (h.vR t v k1 k3),h.lenE,h.sizeA,h.defs⟩
theorem c4g {P:Program} {N id m l:Nat} {ops:Array Oper} {is is2:List RI} {o:Oper} {f:Operand} {args:Array Operand} {ts:Array TypeId} {σ:Sg} {H:Hp} {g:G} {a:Act} {w:World} {Q:Exit→Act→World→Prop} {K:List V→Hp→Prop}
    (ho:ops[m]?=some o) (hg:o.guard=none) (hop:o.op=.call { callee:=.value f,args:=args,argTypes:=ts }) (hdst:a8q N o.dst=true)
    (hc:a6y P N 0 [] (ops.toList.take m) is=true) (hds:∀ t∈dlT (ops.toList.take m) [],a8q N t=true) (hc2:a6y P N (m+1) (o.dst::dlT (ops.toList.take m) []) (ops.toList.drop (m+1)) is2=true)
    (h:evX1 P σ is [] [] H K) (hs:RS g H.m w) (hf:∀ id,H.n≤id→g.ι id=none) (hr:RA none g σ a N w)
    (k:∀ env H' g' a' w',K env H'→RG [] g' σ (dlT (ops.toList.take m) []) env a' N→RS g' H'.m w'→Fr g H g' H'→Ext g H.m w g' H'.m w' →
      ∃ Rr:Ending→World→Prop,a'.eval f=.func (.yield l) #[] #[]∧YieldAt (Fw none) 0 P l (args.map a'.eval) w' Rr ∧
        ∀ e w'',Rr e w''→∃ (b:Bool) (g2:G) (σ2:Sg) (H2:Hp) (K2:List V→Hp→Prop),e=.returned (.bool b)∧RS g2 H2.m w''∧(∀ id,H2.n≤id→g2.ι id=none)∧RG [] g2 σ2 (dlT (ops.toList.take m) []) env a' N ∧
          evX1 P σ2 is2 (.bool b::env) [] H2 K2 ∧
          ∀ env3 H3 g3 a3 w3,K2 env3 H3→RG [] g3 σ2 (dlT (ops.toList.drop (m+1)) (o.dst::dlT (ops.toList.take m) [])) env3 a3 N→RS g3 H3.m w3→Fr g2 H2 g3 H3→Ext g2 H2.m w'' g3 H3.m w3→Q .normal a3 w3) :
    (Code.region id ops false).wpIn (Fw none) 0 P Q a w:=by
  refine wpIn_region ?_
  have hlt:m < ops.toList.length:=by have:=(Array.getElem?_eq_some_iff.1 ho).1; simpa using this
  have hsp:ops.toList=ops.toList.take m++o::ops.toList.drop (m+1):=by
    have e:ops.toList[m]=o:=by have:=(Array.getElem?_eq_some_iff.1 ho).2; simpa using this
    rw [← e,List.getElem_cons_drop hlt,List.take_append_drop]
  have htl:(ops.toList.take m).length=m:=by simp at hlt ⊢; omega
  have hrg:List.range ops.size=List.range' 0 (ops.toList.take m).length++(m::List.range' (m+1) (ops.toList.drop (m+1)).length):=by
    rw [htl,List.range_eq_range',show ops.size=m+(1+(ops.size - (m+1))) by simp at hlt; omega,← List.range'_append_1,List.length_drop,Array.length_toList,Nat.zero_add,← List.range'_append_1]
    simp
  rw [hrg]
  refine b5u (P:=P) (ro:=none) (de:=[]) (N:=N) (σ:=σ) (os2:=o::ops.toList.drop (m+1)) is (ops.toList.take m) 0 [] [] [] H K a w g (by simpa using hsp) rfl (by intro j d h; omega) (by simp) hc (a4j (fun _ _ h => h) h) hs hf (by have:=hr.rg; rwa [hr.defs.none] at this) ?_
  intro env H' g' a' w' k1 k2 k3 k4 k5
  rw [b5n] at k2
  obtain ⟨Rr,q1,q2,q3⟩:=k env H' g' a' w' k1 k2 k3 k4 k5
  refine c1j ho hg hop q1 q2 fun e w'' he => ?_
  obtain ⟨b,g2,σ2,H2,K2,rfl,p1,p2,p3,p4,p5⟩:=q3 e w'' he
  refine ⟨_,rfl, ?_⟩
  have hdlen:(dlT (ops.toList.take m) []).length=m:=by simp [dlT]; simp at hlt; omega
  refine b7c (P:=P) (ro:=none) (de:=[]) (N:=N) (σ:=σ2) is2 (ops.toList.drop (m+1)) (m+1) (o.dst::dlT (ops.toList.take m) []) (.bool b::env) [] H2 K2 (a'.put o.dst (.bool b)) w'' g2 rfl (by simp [hdlen]) ?_ ?_ hc2 (a4j (fun _ _ h => h) p4) p1 p2 (p3.put (.refl g2) hdst (by simp [R])) ?_
  · intro j d h
    cases d with
    | zero => obtain rfl : j = m := by omega
              simp [ho]
    | succ d =>
      simp only [List.getElem?_cons_succ,dlT,List.append_nil]
      rw [List.getElem?_reverse (by simp; simp at hlt; omega),List.getElem?_map,List.length_map,htl,List.getElem?_take_of_lt (by omega)]
      rw [show m - 1 - d=j by omega]; simp
  · intro t ht
    rcases List.mem_cons.1 ht with rfl | ht
    · exact hdst
    · exact hds t ht
  · intro env3 H3 g3 a3 w3 r1 r2 r3 r4 r5
    rw [b5n] at r2
    exact p5 env3 H3 g3 a3 w3 r1 r2 r3 r4 r5
theorem a5j (s:Stt):(sttV s).closed=true:=by simp [sttV,V.closed,a0b]
def hd (l:Nat) (r:Rn) (k:Nat):Sg:=[(0,.yl l),(6,a0h r.states),(7,.int .i64 (r.states.length:Int)),(8,.int .i64 (k:Int))]
theorem a6v {l k:Nat} {r:Rn}:∀ t v,find t (hd l r k)=some v→v.closed=true:=by
  intro t v h
  have hst:(a0h r.states).closed=true:=by simp [a0h,V.closed,a0a,a5j]
  simp only [hd,find] at h
  repeat' split at h
  all_goals first | (cases h; done) | (simp at h; subst h; first | rfl | exact hst)
def H0:Hp:=⟨0,fun _ => none⟩
set_option maxHeartbeats 1000000 in
theorem a8w (r:Rn) (hlen:r.states.length≤4611686018427387904):SeqC Tryz.prog 174 [.fptr (rnV r) 0] (a8g 0 (mv sttV r.states)):=by
  refine ⟨⟨Tryz.f174,Tryz.func174,rfl,by kernel_rfl⟩,fun F w ys hs hys l J Jx X jlt jst jxst hy hdis h0 => ?_⟩
  have hm:Tryz.prog.follows .mixedOrders=true:=by kernel_rfl
  simp only [RC] at hys
  obtain ⟨y,ys',hys',hyr,hnil⟩:=hys
  subst hnil
  obtain rfl:ys=#[y]:=by cases ys; simp_all
  refine callsIn_of_wp Tryz.func174 rfl trivial ?_
  have ra0:RA none ⟨fun _ => none,F⟩ [(0,.yl l),(1,.fptr (rnV r) 0)] { tmps:=#[.func (.yield l) #[] #[]]++#[y]++Array.replicate (19 - 2) undef,defers:=[] } 19 w:=by
    refine ⟨fun t v ht => ?_,by simp,.nil (by simp)⟩
    simp only [find] at ht
    split at ht
    · rename_i e; subst e; simp at ht; subst ht; simp [R]
    · split at ht
      · rename_i e; subst e; simp at ht; subst ht; simpa using hyr
      · cases ht
  refine wpIn_seq (c8j hm (N:=19) (c:=.reg false [p (.fad 4 (.v 1)),p (.load (none) (.r 0)),p (.len false (.r 0)),p (.mov (.k (.int .i64 0)))] [(0,.v 0),(6,.r 2),(7,.r 1),(8,.r 0)])
    (σ:=[(0,.yl l),(1,.fptr (rnV r) 0)]) (H:=H0) (Q:=fun ae σ H => ae=.norm∧σ=hd l r 0∧H=H0) rfl (by kernel_rfl) ?_ hs (fun _ _ => rfl) ra0 ?_)
  · simp (maxSteps:=1000000) (disch:=omega) only [rg,gD,simprocAttr,rnV,a0h,a0j]
    rfl
  rintro e a1 w1 ⟨ae,σ1,H1,g1,k1,⟨rfl,rfl,rfl⟩,k3,k4,k5,k6⟩
  cases e<;>simp only [AEx.is] at k1
  clear k1
  have nf:∀ {g':G} {w':World},Ext ⟨fun _ => none,F⟩ (fun _ => none) w g' (fun _ => none) w'→∀ b c,g'.F b=some c→(F b=some c∨w.heap.size≤b)∧¬ X b:=fun hx b c hb => by
    rcases hx.froz b c hb with q | q | ⟨_,_,_,_,q,_⟩
    · exact ⟨.inl q,hdis b c q⟩
    · exact ⟨.inr q,fun hX => by have:=jlt 0 X w h0 b hX; omega⟩
    · cases q
  refine wpIn_block (wpIn_loop_ghost (fun n a W => ∃ (k:Nat) (F':Nat→Option (List Value)) (X:Nat→Prop),n=r.states.length - k∧k≤r.states.length∧J k X W∧RS ⟨fun _ => none,F'⟩ (fun _ => none) W∧w.heap.size≤W.heap.size ∧
    (∀ b c,F' b=some c→(F b=some c∨w.heap.size≤b)∧¬ X b)∧RA none ⟨fun _ => none,F'⟩ (hd l r k) a 19 W) r.states.length
    ⟨0,g1.F,X,by simp,Nat.zero_le _,jst 0 X w w1 h0 k6.bare,⟨k3.fro,by simp,by simp⟩,k6.size,nf k6,k5.reset fun t v h => ⟨h,a6v t v h⟩⟩ ?_)
  clear k3 k4 k5 k6 nf ra0 hs h0 hdis a1 w1 g1 X
  rintro n a W ⟨k,F',X,rfl,hk,hj,hrs,hsz,hF',ra⟩
  -- is there one more?
  refine wpIn_seq (c8j hm (N:=19) (c:=.reg false [p (.bin .lss (.v 8) (.v 7))] [(0,.v 0),(6,.v 6),(7,.v 7),(8,.v 8),(9,.r 0)])
    (H:=H0) (Q:=fun ae σ H => ae=.norm∧σ=[(0,.yl l),(6,a0h r.states),(7,.int .i64 (r.states.length:Int)),(8,.int .i64 (k:Int)),(9,.bool (decide ((k:Int) < r.states.length)))]∧H=H0) rfl (by kernel_rfl) ?_ hrs (fun _ _ => rfl) ra ?_)
  · simp (maxSteps:=1000000) (disch:=omega) only [rg,gD,simprocAttr,hd]
  rintro e a1 w1 ⟨ae,σ1,H1,g1,k1,⟨rfl,rfl,rfl⟩,k3,k4,k5,k6⟩
  cases e<;>simp only [AEx.is] at k1
  clear k1
  have hst:(a0h r.states).closed=true:=by simp [a0h,V.closed,a0a,a5j]
  have b1:Bel W w1:=k6.bare
  have hj1:=jst k X W w1 hj b1
  have hF1:∀ b c,g1.F b=some c→(F b=some c∨w.heap.size≤b)∧¬ X b:=fun b c hb => by
    rcases k6.froz b c hb with q | q | ⟨_,_,_,_,q,_⟩
    · exact hF' b c q
    · exact ⟨.inr (by omega),fun hX => by have:=jlt k X W hj b hX; omega⟩
    · cases q
  have ra1:RA none ⟨fun _ => none,g1.F⟩ ((9,.bool (decide ((k:Int) < r.states.length)))::hd l r k) a1 19 w1:=k5.reset fun t v ht => by
    simp only [find] at ht
    split at ht
    · rename_i e; subst e; cases ht; exact ⟨rfl,rfl⟩
    · rename_i e
      refine ⟨?_,a6v t v ht⟩
      simp only [hd,find] at ht ⊢
      repeat' split at ht
      all_goals first | (cases ht; done) | simp_all
  have rs1:RS ⟨fun _ => none,g1.F⟩ (fun _ => none) w1:=⟨k3.fro,by simp,by simp⟩
  have sz1:w.heap.size≤w1.heap.size:=Nat.le_trans hsz b1.size
  clear k3 k4 k5 k6 hrs hj hF' ra hsz b1
  have hc9:a1.eval (.tmp 9)=.bool (decide ((k:Int) < r.states.length)):=by
    have:=ra1.vR 9 (.bool (decide ((k:Int) < r.states.length))) rfl
    simp only [R] at this; exact this
  by_cases hlt:k < r.states.length
  · refine wpIn_seq (wpIn_cond_true (by rw [hc9]; simp; omega) (wpIn_skip ?_))
    have raH:RA none ⟨fun _ => none,g1.F⟩ (hd l r k) a1 19 w1:=⟨fun t v ht => ra1.vR t v (by
      simp only [find]
      split
      · rename_i e; subst e; simp [hd,find] at ht
      · exact ht),ra1.sizeA,ra1.defs⟩
    -- the state is taken
    refine wpIn_seq (wpIn_block (wpIn_seq (c8j hm (N:=19) (c:=.reg false [p (.mov (.v 8)),p (.iad 5 (.v 6) (.v 8)),p (.load (some 5) (.r 0)),p (.alloc 5 (.agg [.int .i64 0,.int .i64 0,.int .i64 0,.int .i64 0,.str []])),p (.mov (.r 3)),p (.store (some 5) (.r 1) (.r 2))] [(0,.v 0),(3,.r 1),(4,.r 2),(6,.v 6),(7,.v 7),(8,.v 8)])
      (H:=H0) (Q:=fun ae σ H => ae=.norm∧σ=[(0,.yl l),(3,.int .i64 (k:Int)),(4,.ptr 0 0 0),(6,a0h r.states),(7,.int .i64 (r.states.length:Int)),(8,.int .i64 (k:Int))]∧H=⟨1,upd (fun _ => none) 0 (some (.arr 5 [sttV r.states[k]]))⟩) rfl (by kernel_rfl) ?_ rs1 (fun _ _ => rfl) raH ?_)))
    · simp (maxSteps:=1000000) (disch:=omega) only [rg,gD,simprocAttr,hd,a0h,sttV,H0]
      congr 1; funext i; simp only [upd]; split<;>rfl
    rintro e a2 w2 ⟨ae,σ2,H2,g2,k1,⟨rfl,rfl,rfl⟩,k3,k4,k5,k6⟩
    cases e<;>simp only [AEx.is] at k1
    clear k1
    have hj2:=jst k X w1 w2 hj1 k6.bare
    have hF2:∀ b c,g2.F b=some c→(F b=some c∨w.heap.size≤b)∧¬ X b:=fun b c hb => by
      rcases k6.froz b c hb with q | q | ⟨_,_,_,_,q,_⟩
      · exact hF1 b c q
      · exact ⟨.inr (by omega),fun hX => by have:=jlt k X w1 hj1 b hX; omega⟩
      · cases q
    have sz2:w.heap.size≤w2.heap.size:=Nat.le_trans sz1 k6.bare.size
    -- yield is called
    refine wpIn_seq (c4g (N:=19) (m:=3) (l:=l) (f:=.tmp 13) (args:=#[.tmp 14,.tmp 15]) (is:=[p (.mov (.v 0)),p (.mov (.v 3)),p (.load (some 5) (.v 4))]) (is2:=[p (.un .not (.r 0))])
      (K:=fun env _ => env=[sttV r.states[k],.int .i64 (k:Int),.yl l])
      rfl rfl rfl (by kernel_rfl) (by kernel_rfl) (by decide) (by kernel_rfl) ?_ k3 k4.1 k5 ?_)
    · simp (maxSteps:=1000000) (disch:=omega) only [rg,gD,simprocAttr,sttV]
    rintro env H' g' a' w' rfl rq rs3 fr3 ext3
    have ownW:∀ b,Own g2 (upd (fun _ => none) 0 (some (.arr 5 [sttV r.states[k]]))) b→w1.heap.size≤b:=fun b hb => by
      rcases k6.own b hb with q | ⟨_,_,_,_,q,_⟩
      · exact q
      · cases q
    have hb3:Bel w1 w':=by
      refine ⟨Nat.le_trans k6.size ext3.size,fun b hb => ?_,ext3.os.trans k6.os,ext3.tape.trans k6.tape,ext3.output.trans k6.output⟩
      exact (ext3.old b (Nat.lt_of_lt_of_le hb k6.size) (fun h => by have:=ownW b h; omega)).trans (k6.bare.old b hb)
    have hj3:=jst k X w1 w' hj1 hb3
    have hF3:∀ b c,g'.F b=some c→(F b=some c∨w.heap.size≤b)∧¬ X b:=fun b c hb => by
      have big:w1.heap.size≤b→(F b=some c∨w.heap.size≤b)∧¬ X b:=fun q => ⟨.inr (by omega),fun hX => by have:=jlt k X w1 hj1 b hX; omega⟩
      rcases ext3.froz b c hb with q | q | q
      · exact hF2 b c q
      · exact big (Nat.le_trans k6.size q)
      · exact big (ownW b q)
    have r14:R g' (.int .i64 (k:Int)) (a'.eval (.tmp 14)):=rq.eR 14 1 _ rfl rfl
    have r15:R g' (sttV r.states[k]) (a'.eval (.tmp 15)):=rq.eR 15 0 _ rfl rfl
    have r13:R g' (.yl l) (a'.eval (.tmp 13)):=rq.eR 13 2 _ rfl rfl
    have hxs:RC ⟨fun _ => none,g'.F⟩ [.int .i64 ((0+k:Nat):Int),sttV r.states[k]] (#[Operand.tmp 14,.tmp 15].map a'.eval).toList:=by
      simp only [Array.toList_map,List.map_cons,List.map_nil,RC]
      refine ⟨_,_,rfl, ?_,_,_,rfl,R.closed (g:=g') (g':=⟨fun _ => none,g'.F⟩) (fun _ _ q => q) _ _ (a5j _) r15,rfl⟩
      rw [Nat.zero_add]; simpa only [R] using r14
    refine ⟨_,by simpa only [R] using r13,hy k X w' g'.F _ _ hj3 (by rw [a7d,a0m hlt]; rfl) hF3 ⟨rs3.fro,by simp,by simp⟩ hxs, ?_⟩
    rintro e w'' ⟨hz,hold,hpost⟩
    have rs4:RS ⟨fun _ => none,g'.F⟩ (fun _ => none) w'':=by
      refine ⟨fun b c q => ?_,by simp,by simp⟩
      obtain ⟨e,fr,h1⟩:=rs3.fro b c q
      exact ⟨e,fr,(hold b (Array.getElem?_eq_some_iff.1 h1).1 (hF3 b c q).2).trans h1⟩
    have rg4:RG [] ⟨fun _ => none,g'.F⟩ (hd l r k) (dlT ((#[]:Array Oper).toList) [some 15,some 14,some 13]) [sttV r.states[k],.int .i64 (k:Int),.yl l] a' 19:=by
      refine rq.reset (fun t v ht => ⟨?_,a6v t v ht⟩) (fun d v hd => ?_)
      · simp only [hd,find] at ht ⊢
        repeat' split at ht
        all_goals first | (cases ht; done) | simp_all
      · match d,hd with
        | 0,hd => simp [nth] at hd; subst hd; exact a5j _
        | 1,hd => simp [nth] at hd; subst hd; rfl
        | 2,hd => simp [nth] at hd; subst hd; rfl
        | d+3,hd => simp [nth] at hd
    have fin:∀ (b:Bool) g3 a3,RG [] g3 (hd l r k) [some 17,some 16,some 15,some 14,some 13] [.bool (!b),.bool b,sttV r.states[k],.int .i64 (k:Int),.yl l] a3 19→a3.eval (.tmp 17)=.bool (!b)∧∀ w3,RA none ⟨fun _ => none,g3.F⟩ (hd l r k) a3 19 w3:=fun b g3 a3 q => by
      refine ⟨by have : R g3 (.bool (!b)) (a3.eval (.tmp 17)) := q.eR 17 0 _ rfl rfl
                 simpa only [R] using this,fun w3 => ⟨fun t v ht => ?_,q.sizeA,by rw [q.defs]; exact .nil (by simp)⟩⟩
      refine R.closed (g:=g3) (g':=⟨fun _ => none,g3.F⟩) (fun _ _ q => q) _ _ (a6v t v ht) (q.vR t v ?_ ht)
      simp only [hd,find] at ht
      repeat' split at ht
      all_goals first | (cases ht; done) | (rename_i e; subst e; rfl) | (subst_vars; rfl)
    rcases hpost with ⟨rfl,X',hj4,hX'⟩ | ⟨rfl,hjx⟩
    · refine ⟨true,⟨fun _ => none,g'.F⟩,hd l r k,H0,fun env H => env=[.bool (!true),.bool true,sttV r.states[k],.int .i64 (k:Int),.yl l]∧H=H0,rfl,rs4,fun _ _ => rfl,rg4, ?_, ?_⟩
      · simp (maxSteps:=1000000) (disch:=omega) only [rg,gD,simprocAttr,hd]
      rintro env3 H3 g3 a3 w3 ⟨rfl,rfl⟩ rg5 rs5 fr5 ext5
      obtain ⟨e17,ra5⟩:=fin true g3 a3 rg5
      have b5:Bel w'' w3:=ext5.bare
      have hF5:∀ b c,g3.F b=some c→(F b=some c∨w.heap.size≤b)∧¬ X' b:=fun b c hb => by
        have hX2:w1.heap.size≤b→¬ X' b→True:=fun _ _ => trivial
        rcases ext5.froz b c hb with q | q | ⟨_,_,_,_,q,_⟩
        · refine ⟨(hF3 b c q).1,fun hx => ?_⟩
          rcases hX' b hx with h | h
          · exact (hF3 b c q).2 h
          · obtain ⟨_,_,h1⟩:=rs3.fro b c q
            have:=(Array.getElem?_eq_some_iff.1 h1).1
            omega
        · refine ⟨.inr (by have:=hb3.size; omega),fun hx => ?_⟩
          have:=jlt (k+1) X' w'' hj4 b hx
          omega
        · cases q
      refine wpIn_cond_false e17 (wpIn_skip ?_)
      refine c8j hm (N:=19) (c:=.reg false [p (.bin .add (.v 8) (.k (.int .i64 1))),p (.mov (.r 0))] [(0,.v 0),(6,.v 6),(7,.v 7),(8,.r 0)]) (H:=H0) (Q:=fun ae σ H => ae=.norm∧σ=hd l r (k+1)∧H=H0) rfl (by kernel_rfl) ?_
        (g:=⟨fun _ => none,g3.F⟩) ⟨rs5.fro,by simp [H0],by simp [H0]⟩ (fun _ _ => rfl) (ra5 w3) ?_
      · simp (maxSteps:=1000000) (disch:=omega) only [rg,gD,simprocAttr,hd]
        rfl
      rintro e a7 w7 ⟨ae,σ7,H7,g7,q1,⟨rfl,rfl,rfl⟩,q3,q4,q5,q6⟩
      cases e<;>simp only [AEx.is] at q1
      refine ⟨r.states.length - (k+1),by omega,k+1,g7.F,X',rfl,by omega,jst _ _ _ _ hj4 (b5.trans q6.bare),⟨q3.fro,by simp,by simp⟩, ?_,fun b c hb => ?_,q5.reset fun t v h => ⟨h,a6v t v h⟩⟩
      · have:=hb3.size; have:=b5.size; have:=q6.bare.size; omega
      · rcases q6.froz b c hb with q | q | ⟨_,_,_,_,q,_⟩
        · exact hF5 b c q
        · refine ⟨.inr (by have:=hb3.size; have:=b5.size; omega),fun hx => ?_⟩
          have:=jlt (k+1) X' w'' hj4 b hx
          have:=b5.size
          omega
        · cases q
    · refine ⟨false,⟨fun _ => none,g'.F⟩,hd l r k,H0,fun env H => env=[.bool (!false),.bool false,sttV r.states[k],.int .i64 (k:Int),.yl l]∧H=H0,rfl,rs4,fun _ _ => rfl,rg4, ?_, ?_⟩
      · simp (maxSteps:=1000000) (disch:=omega) only [rg,gD,simprocAttr,hd]
      rintro env3 H3 g3 a3 w3 ⟨rfl,rfl⟩ rg5 rs5 fr5 ext5
      obtain ⟨e17,ra5⟩:=fin false g3 a3 rg5
      refine wpIn_cond_true e17 (wpIn_ret ?_)
      exact ⟨(ra5 w3).defs.none,_,results_none rfl _ _ _,⟨_,rfl⟩,.inr (jxst _ _ hjx ext5.bare)⟩
  · have hke:k=r.states.length:=by omega
    subst hke
    refine wpIn_seq (wpIn_cond_false (by rw [hc9]; simp) (wpIn_exit ?_))
    exact ⟨ra1.defs.none,_,results_none rfl _ _ _,⟨_,rfl⟩,.inl ⟨X,by rw [a6q,a0k]; exact hj1⟩⟩
end
def c123:C :=
  (.seq
 (.reg false [p (.mov (.k (.bool false)))] [(0,.v 0)])
 (.seq
 (.reg false [p (.mov (.v 0)),
 p (.len true (.r 0)),
 p (.bin .geq (.r 0) (.k (.int .i64 1))),
 p (.mov (.r 0)),
 ⟨.mov (.v 0),some (0,true),[]⟩,
 ⟨.len true (.r 0),some (1,true),[]⟩,
 ⟨.bin .leq (.r 0) (.k (.int .i64 16)),some (2,true),[]⟩,
 p (.pick (.r 3) (.r 0) (.k (.bool false))),
 p (.mov (.r 0))] [(2,.r 0)])
 .ret))
def r123:List RV:=[.t 2]
theorem en123:EnP Tryz.prog 123 11 c123 r123:=a0x (by kernel_rfl) Tryz.func123 (by kernel_rfl) ⟨_,rfl,by kernel_rfl,by kernel_rfl⟩
def c125:C :=
  (.seq
 (.reg false [p (.box 5 (.v 0)),
 p (.mov (.k (.nilf)))] [(1,.r 1)])
 (.seq
 (.reg false [p (.mkf 174 [] [.v 1]),
 p (.mov (.r 0))] [(2,.r 0)])
 .ret))
def r125:List RV:=[.t 2]
theorem en125:EnP Tryz.prog 125 4 c125 r125:=a0x (by kernel_rfl) Tryz.func125 (by kernel_rfl) ⟨_,rfl,by kernel_rfl,by kernel_rfl⟩
def c224:C :=
  (.seq
 (.reg false [p (.mov (.k (.int .i64 0)))] [(0,.v 0),(1,.v 1)])
 (.seq
 (.seq
 (.reg false [p (.mov (.v 0)),
 p (.len false (.r 0)),
 p (.mov (.k (.int .i64 0)))] [(0,.v 0),(1,.v 1),(7,.r 1),(8,.r 0)])
 (.block 0
 (.loop
 (.seq
 (.reg false [p (.bin .lss (.v 8) (.v 7))] [(0,.v 0),(1,.v 1),(7,.v 7),(8,.v 8),(9,.r 0)])
 (.seq
 (.cond (.v 9)
 .skip
 (.exit 0))
 (.seq
 (.block 1
 (.seq
 (.reg false [p (.mov (.v 8)),
 p (.mov (.r 0))] [(0,.v 0),(1,.v 1),(5,.r 0),(7,.v 7),(8,.v 8)])
 (.seq
 (.reg false [p (.mov (.v 1)),
 p (.mov (.v 0)),
 p (.mov (.v 5)),
 p (.iad 1 (.r 1) (.r 0)),
 p (.load (none) (.r 0)),
 p (.bin .eql (.r 4) (.r 0))] [(0,.v 0),(1,.v 1),(5,.v 5),(7,.v 7),(8,.v 8),(16,.r 0)])
 (.cond (.v 16)
 (.seq
 (.reg false [p (.mov (.v 5)),
 p (.mov (.r 0))] [(4,.r 0)])
 .ret)
 .skip))))
 (.reg false [p (.bin .add (.v 8) (.k (.int .i64 1))),
 p (.mov (.r 0))] [(0,.v 0),(1,.v 1),(7,.v 7),(8,.r 0)])))))))
 (.frz
 (.seq
 (.reg false [p (.mov (.k (.int .i64 (-1))))] [(4,.r 0)])
 .ret))))
def r224:List RV:=[.t 4]
theorem en224:EnP Tryz.prog 224 19 c224 r224:=a0x (by kernel_rfl) Tryz.func224 (by kernel_rfl) ⟨_,rfl,by kernel_rfl,by kernel_rfl⟩
def c177:C :=
  (.seq
 (.reg false [p (.mov (.k (.bool false)))] [(0,.v 0),(1,.v 1)])
 (.seq
 (.reg false [p (.mov (.v 0)),
 p (.mov (.v 1)),
 p (.call true (.k (.fn 224 [] [])) [.r 1,.r 0]),
 p (.bin .geq (.r 0) (.k (.int .i64 0))),
 p (.mov (.r 0))] [(4,.r 0)])
 .ret))
def r177:List RV:=[.t 4]
theorem en177:EnP Tryz.prog 177 9 c177 r177:=a0x (by kernel_rfl) Tryz.func177 (by kernel_rfl) ⟨_,rfl,by kernel_rfl,by kernel_rfl⟩
def c128:C :=
  (.seq
 (.reg false [p (.box 5 (.v 0)),
 p (.box 1 (.v 1)),
 p (.mov (.k (.int .i64 0)))] [(2,.r 2),(3,.r 1)])
 (.seq
 (.reg false [p (.alloc 1 (.int .i64 0)),
 p (.store (none) (.r 0) (.k (.int .i64 0)))] [(2,.v 2),(3,.v 3),(5,.r 1)])
 (.seq
 (.seq
 (.reg false [p (.load (some 5) (.v 2)),
 p (.call true (.k (.fn 125 [] [])) [.r 0])] [(3,.v 3),(5,.v 5),(9,.r 0)])
 (.block 0
 (.rf (.v 9) [10,11]
 (.reg false [p (.alloc 5 (.agg [.int .i64 0,.int .i64 0,.int .i64 0,.int .i64 0,.str []])),
 p (.store (some 5) (.r 0) (.v 11))] [(3,.v 3),(5,.v 5),(7,.r 1)])
 (.block 1
 (.seq
 (.reg false [p (.load (none) (.v 3)),
 p (.fad 0 (.v 7)),
 p (.load (none) (.r 0)),
 p (.call true (.k (.fn 177 [] [])) [.r 2,.r 0])] [(5,.v 5),(15,.r 0)])
 (.cond (.v 15)
 (.reg false [p (.load (none) (.v 5)),
 p (.bin .add (.r 0) (.k (.int .i64 1))),
 p (.store (none) (.v 5) (.r 0))] [])
 .skip))))))
 (.seq
 (.reg false [p (.load (none) (.v 5)),
 p (.mov (.r 0))] [(4,.r 0)])
 .ret))))
def r128:List RV:=[.t 4]
theorem en128:EnP Tryz.prog 128 19 c128 r128:=a0x (by kernel_rfl) Tryz.func128 (by kernel_rfl) ⟨_,rfl,by kernel_rfl,by kernel_rfl⟩
def c124:C :=
  (.seq
 (.reg false [p (.box 5 (.v 0)),
 p (.mov (.k (.int .i64 0)))] [(1,.r 1)])
 (.seq
 (.block 0
 (.seq
 (.reg true [p (.load (some 5) (.v 1)),
 p (.bsl 1 [.k (.int .i64 3)]),
 p (.call true (.k (.fn 128 [] [])) [.r 1,.r 0]),
 p (.fad 4 (.v 1)),
 p (.load (none) (.r 0)),
 p (.len false (.r 0)),
 p (.bin .eql (.r 3) (.r 0)),
 p (.mov (.r 0))] [(1,.v 1),(3,.r 0)])
 (.cond (.v 3)
 (.seq
 (.reg false [p (.mov (.k (.int .i64 1)))] [(2,.r 0)])
 .ret)
 (.seq
 (.reg false [p (.load (some 5) (.v 1)),
 p (.bsl 1 [.k (.int .i64 4)]),
 p (.call true (.k (.fn 128 [] [])) [.r 1,.r 0]),
 p (.bin .gtr (.r 0) (.k (.int .i64 0))),
 p (.mov (.r 0))] [(1,.v 1),(11,.r 0)])
 (.cond (.v 11)
 (.seq
 (.reg false [p (.mov (.k (.int .i64 2)))] [(2,.r 0)])
 .ret)
 (.seq
 (.reg false [p (.load (some 5) (.v 1)),
 p (.bsl 1 [.k (.int .i64 0),.k (.int .i64 1),.k (.int .i64 2)]),
 p (.call true (.k (.fn 128 [] [])) [.r 1,.r 0]),
 p (.bin .eql (.r 0) (.k (.int .i64 0))),
 p (.mov (.r 0))] [(16,.r 0)])
 (.cond (.v 16)
 (.seq
 (.reg false [p (.mov (.k (.int .i64 3)))] [(2,.r 0)])
 .ret)
 .skip)))))))
 (.seq
 (.reg false [p (.mov (.k (.int .i64 0)))] [(2,.r 0)])
 .ret)))
def r124:List RV:=[.t 2]
theorem en124:EnP Tryz.prog 124 21 c124 r124:=a0x (by kernel_rfl) Tryz.func124 (by kernel_rfl) ⟨_,rfl,by kernel_rfl,by kernel_rfl⟩
def c176:C :=
  (.seq
 (.reg false [p (.mov (.k (.bool false)))] [(0,.v 0),(1,.v 1)])
 (.seq
 (.reg false [p (.fad 4 (.v 1)),
 p (.load (none) (.r 0)),
 p (.mov (.v 0)),
 p (.iad 5 (.r 1) (.r 0)),
 p (.fad 0 (.r 0)),
 p (.load (none) (.r 0)),
 p (.bin .neq (.r 0) (.k (.int .i64 3))),
 p (.mov (.r 0))] [(3,.r 0)])
 .ret))
def r176:List RV:=[.t 3]
theorem chk176:Chk Tryz.prog Tryz.f176 c176 r176:=⟨_,rfl,by kernel_rfl,by kernel_rfl⟩
theorem ena176:EnA Tryz.prog 176 11 c176 r176:=a2h (by kernel_rfl) Tryz.func176 (by kernel_rfl) chk176
def c127:C :=
  (.seq
 (.reg false [p (.box 5 (.v 0)),
 p (.mov (.k (.bool false)))] [(1,.v 1),(2,.r 1)])
 (.seq
 (.reg false [p (.fad 1 (.v 2)),
 p (.fad 1 (.r 0)),
 p (.load (none) (.r 0)),
 p (.mov (.v 1)),
 p (.iad 4 (.r 1) (.r 0)),
 p (.fad 0 (.r 0)),
 p (.load (none) (.r 0)),
 p (.mkf 176 [] [.v 2]),
 p (.call false (.k (.fn 175 [] [])) [.r 1,.r 0]),
 p (.un .not (.r 0)),
 p (.mov (.r 0))] [(4,.r 0)])
 .ret))
def r127:List RV:=[.t 4]
theorem en127:EnP Tryz.prog 127 15 c127 r127:=a0x (by kernel_rfl) Tryz.func127 (by kernel_rfl) ⟨_,rfl,by kernel_rfl,by kernel_rfl⟩
def c218:C :=
  (.seq
 (.reg false [p (.box 5 (.v 0)),
 p (.box 1 (.v 1)),
 p (.mov (.k (.int .i64 0)))] [(2,.r 2),(3,.r 1)])
 (.seq
 (.reg false [p (.alloc 1 (.int .i64 0)),
 p (.store (none) (.r 0) (.k (.int .i64 (-1))))] [(2,.v 2),(3,.v 3),(5,.r 1)])
 (.seq
 (.seq
 (.reg false [p (.load (some 5) (.v 2)),
 p (.call true (.k (.fn 125 [] [])) [.r 0])] [(2,.v 2),(3,.v 3),(5,.v 5),(9,.r 0)])
 (.block 0
 (.rf (.v 9) [10,11]
 (.seq
 (.reg false [p (.mov (.v 10))] [(2,.v 2),(3,.v 3),(5,.v 5),(6,.r 0),(11,.v 11)])
 (.reg false [p (.alloc 5 (.agg [.int .i64 0,.int .i64 0,.int .i64 0,.int .i64 0,.str []])),
 p (.store (some 5) (.r 0) (.v 11))] [(2,.v 2),(3,.v 3),(5,.v 5),(6,.v 6),(7,.r 1)]))
 (.block 1
 (.seq
 (.reg true [p (.fad 0 (.v 7)),
 p (.load (none) (.r 0)),
 p (.bin .eql (.r 0) (.k (.int .i64 2))),
 p (.mov (.r 0)),
 ⟨.fad 2 (.v 7),some (0,true),[]⟩,
 ⟨.load (none) (.r 0),some (1,true),[]⟩,
 ⟨.load (none) (.v 3),some (2,true),[]⟩,
 ⟨.call true (.k (.fn 236 [] [])) [.r 0,.k (.fsl .nil 1 [])],some (3,true),[]⟩,
 ⟨.bin .leq (.r 2) (.r 0),some (4,true),[]⟩,
 p (.pick (.r 5) (.r 0) (.k (.bool false))),
 p (.mov (.r 0)),
 ⟨.load (none) (.v 5),some (0,true),[]⟩,
 ⟨.bin .lss (.r 0) (.k (.int .i64 0)),some (1,true),[]⟩,
 ⟨.mov (.r 0),some (2,true),[]⟩,
 ⟨.fad 2 (.v 7),some (0,false),[]⟩,
 ⟨.load (none) (.r 0),some (1,false),[]⟩,
 ⟨.fad 4 (.v 2),some (2,false),[]⟩,
 ⟨.load (none) (.r 0),some (3,false),[]⟩,
 ⟨.load (none) (.v 5),some (4,false),[]⟩,
 ⟨.iad 5 (.r 1) (.r 0),some (5,false),[]⟩,
 ⟨.fad 2 (.r 0),some (6,false),[]⟩,
 ⟨.load (none) (.r 0),some (7,false),[]⟩,
 ⟨.bin .lss (.r 6) (.r 0),some (8,false),[]⟩,
 ⟨.pick (.r 9) (.k (.bool true)) (.r 0),some (12,true),[]⟩,
 p (.pick (.r 13) (.r 0) (.k (.bool false)))] [(5,.v 5),(6,.v 6),(36,.r 0)])
 (.cond (.v 36)
 (.reg false [p (.mov (.v 6)),
 p (.store (none) (.v 5) (.r 0))] [])
 .skip))))))
 (.seq
 (.reg false [p (.load (none) (.v 5)),
 p (.mov (.r 0))] [(4,.r 0)])
 .ret))))
def r218:List RV:=[.t 4]
theorem en218:EnP Tryz.prog 218 39 c218 r218:=a0x (by kernel_rfl) Tryz.func218 (by kernel_rfl) ⟨_,rfl,by kernel_rfl,by kernel_rfl⟩
def c206:C :=
  (.seq
 (.reg false [p (.mov (.k (.fsl .nil 5 [])))] [(0,.v 0)])
 (.seq
 (.seq
 (.reg false [p (.mov (.v 0)),
 p (.eqn false .s (.r 0))] [(0,.v 0),(4,.r 0)])
 (.cond (.v 4)
 (.seq
 (.reg false [p (.mov (.k (.fsl .nil 5 [])))] [(2,.r 0)])
 .ret)
 .skip))
 (.seq
 (.reg false [p (.bsl 5 []),
 p (.mov (.v 0)),
 p (.app 5 48 (.r 1) (.r 0)),
 p (.mov (.r 0))] [(2,.r 0)])
 .ret)))
def r206:List RV:=[.t 2]
theorem chk206:Chk Tryz.prog Tryz.f206 c206 r206:=⟨_,rfl,by kernel_rfl,by kernel_rfl⟩
theorem ena206:EnA Tryz.prog 206 8 c206 r206:=a2h (by kernel_rfl) Tryz.func206 (by kernel_rfl) chk206
def c170:C :=
  (.seq
 (.reg false [p (.box 5 (.v 0)),
 p (.mov (.k (.bool false)))] [(1,.v 1),(2,.r 1)])
 (.seq
 (.seq
 (.reg false [p (.fad 4 (.v 2)),
 p (.load (none) (.r 0)),
 p (.len false (.r 0)),
 p (.mov (.k (.int .i64 0)))] [(1,.v 1),(8,.r 2),(9,.r 1),(10,.r 0)])
 (.block 0
 (.loop
 (.seq
 (.reg false [p (.bin .lss (.v 10) (.v 9))] [(1,.v 1),(8,.v 8),(9,.v 9),(10,.v 10),(11,.r 0)])
 (.seq
 (.cond (.v 11)
 .skip
 (.exit 0))
 (.seq
 (.block 1
 (.seq
 (.reg false [p (.iad 5 (.v 8) (.v 10)),
 p (.load (some 5) (.r 0)),
 p (.alloc 5 (.agg [.int .i64 0,.int .i64 0,.int .i64 0,.int .i64 0,.str []])),
 p (.store (some 5) (.r 0) (.r 1))] [(1,.v 1),(6,.r 1),(8,.v 8),(9,.v 9),(10,.v 10)])
 (.seq
 (.reg false [p (.fad 0 (.v 6)),
 p (.load (none) (.r 0)),
 p (.mov (.v 1)),
 p (.bin .eql (.r 1) (.r 0))] [(1,.v 1),(8,.v 8),(9,.v 9),(10,.v 10),(17,.r 0)])
 (.cond (.v 17)
 (.seq
 (.reg false [p (.mov (.k (.bool true)))] [(4,.r 0)])
 .ret)
 .skip))))
 (.reg false [p (.bin .add (.v 10) (.k (.int .i64 1))),
 p (.mov (.r 0))] [(1,.v 1),(8,.v 8),(9,.v 9),(10,.r 0)])))))))
 (.frz
 (.seq
 (.reg false [p (.mov (.k (.bool false)))] [(4,.r 0)])
 .ret))))
def r170:List RV:=[.t 4]
theorem en170:EnP Tryz.prog 170 19 c170 r170:=a0x (by kernel_rfl) Tryz.func170 (by kernel_rfl) ⟨_,rfl,by kernel_rfl,by kernel_rfl⟩
def c178:C :=
  (.seq
 (.reg false [p (.box 5 (.v 0)),
 p (.mov (.k (.bool false)))] [(1,.r 1)])
 (.seq
 (.reg false [p (.load (some 5) (.v 1)),
 p (.call true (.k (.fn 170 [] [])) [.r 0,.k (.int .i64 0)]),
 p (.mov (.r 0)),
 ⟨.load (some 5) (.v 1),some (0,false),[]⟩,
 ⟨.call true (.k (.fn 170 [] [])) [.r 0,.k (.int .i64 1)],some (1,false),[]⟩,
 p (.pick (.r 2) (.k (.bool true)) (.r 0)),
 p (.mov (.r 0)),
 ⟨.load (some 5) (.v 1),some (0,false),[]⟩,
 ⟨.call true (.k (.fn 170 [] [])) [.r 0,.k (.int .i64 2)],some (1,false),[]⟩,
 p (.pick (.r 2) (.k (.bool true)) (.r 0)),
 p (.mov (.r 0))] [(2,.r 0)])
 .ret))
def r178:List RV:=[.t 2]
theorem en178:EnP Tryz.prog 178 13 c178 r178:=a0x (by kernel_rfl) Tryz.func178 (by kernel_rfl) ⟨_,rfl,by kernel_rfl,by kernel_rfl⟩
def c132:C :=
  (.seq
 (.reg false [p (.box 5 (.v 0)),
 p (.mov (.k (.bool false)))] [(1,.r 1)])
 (.seq
 (.seq
 (.reg false [p (.load (some 5) (.v 1)),
 p (.call true (.k (.fn 178 [] [])) [.r 0]),
 p (.un .not (.r 0)),
 p (.mov (.r 0)),
 ⟨.load (some 5) (.v 1),some (0,true),[]⟩,
 ⟨.call true (.k (.fn 170 [] [])) [.r 0,.k (.int .i64 4)],some (1,true),[]⟩,
 ⟨.un .not (.r 0),some (2,true),[]⟩,
 p (.pick (.r 3) (.r 0) (.k (.bool false))),
 p (.mov (.r 0)),
 ⟨.load (some 5) (.v 1),some (0,true),[]⟩,
 ⟨.call true (.k (.fn 170 [] [])) [.r 0,.k (.int .i64 5)],some (1,true),[]⟩,
 ⟨.un .not (.r 0),some (2,true),[]⟩,
 p (.pick (.r 3) (.r 0) (.k (.bool false)))] [(1,.v 1),(15,.r 0)])
 (.cond (.v 15)
 (.seq
 (.reg false [p (.fad 3 (.v 1)),
 p (.load (none) (.r 0)),
 p (.bin .eql (.r 0) (.k (.int .i64 1))),
 p (.mov (.r 0))] [(2,.r 0)])
 .ret)
 .skip))
 (.seq
 (.seq
 (.reg false [p (.load (some 5) (.v 1)),
 p (.call true (.k (.fn 170 [] [])) [.r 0,.k (.int .i64 4)])] [(1,.v 1),(20,.r 0)])
 (.cond (.v 20)
 (.seq
 (.reg false [p (.fad 3 (.v 1)),
 p (.load (none) (.r 0)),
 p (.bin .eql (.r 0) (.k (.int .i64 2))),
 p (.mov (.r 0)),
 ⟨.load (some 5) (.v 1),some (0,true),[]⟩,
 ⟨.call true (.k (.fn 178 [] [])) [.r 0],some (1,true),[]⟩,
 ⟨.un .not (.r 0),some (2,true),[]⟩,
 p (.pick (.r 3) (.r 0) (.k (.bool false))),
 p (.mov (.r 0))] [(2,.r 0)])
 .ret)
 .skip))
 (.seq
 (.seq
 (.reg false [p (.load (some 5) (.v 1)),
 p (.call true (.k (.fn 178 [] [])) [.r 0]),
 p (.un .not (.r 0))] [(1,.v 1),(31,.r 0)])
 (.cond (.v 31)
 (.seq
 (.reg false [p (.fad 3 (.v 1)),
 p (.load (none) (.r 0)),
 p (.bin .eql (.r 0) (.k (.int .i64 3))),
 p (.mov (.r 0))] [(2,.r 0)])
 .ret)
 .skip))
 (.seq
 (.reg false [p (.fad 3 (.v 1)),
 p (.load (none) (.r 0)),
 p (.bin .eql (.r 0) (.k (.int .i64 0))),
 p (.mov (.r 0)),
 ⟨.load (some 5) (.v 1),some (0,true),[]⟩,
 ⟨.call true (.k (.fn 170 [] [])) [.r 0,.k (.int .i64 5)],some (1,true),[]⟩,
 ⟨.un .not (.r 0),some (2,true),[]⟩,
 p (.pick (.r 3) (.r 0) (.k (.bool false))),
 p (.mov (.r 0))] [(2,.r 0)])
 .ret)))))
def r132:List RV:=[.t 2]
theorem en132:EnP Tryz.prog 132 43 c132 r132:=a0x (by kernel_rfl) Tryz.func132 (by kernel_rfl) ⟨_,rfl,by kernel_rfl,by kernel_rfl⟩
def c134:C :=
  (.seq
 (.reg false [p (.box 5 (.v 0)),
 p (.mov (.k (.bool false)))] [(1,.v 1),(2,.r 1)])
 (.seq
 (.seq
 (.reg false [p (.fad 1 (.v 2)),
 p (.fad 1 (.r 0)),
 p (.load (none) (.r 0)),
 p (.mov (.v 1)),
 p (.iad 4 (.r 1) (.r 0)),
 p (.fad 0 (.r 0)),
 p (.load (none) (.r 0)),
 p (.len false (.r 0)),
 p (.mov (.k (.int .i64 0)))] [(2,.v 2),(13,.r 2),(14,.r 1),(15,.r 0)])
 (.block 0
 (.loop
 (.seq
 (.reg false [p (.bin .lss (.v 15) (.v 14))] [(2,.v 2),(13,.v 13),(14,.v 14),(15,.v 15),(16,.r 0)])
 (.seq
 (.cond (.v 16)
 .skip
 (.exit 0))
 (.seq
 (.block 1
 (.seq
 (.reg false [p (.iad 1 (.v 13) (.v 15)),
 p (.load (none) (.r 0)),
 p (.mov (.r 0))] [(2,.v 2),(6,.r 0),(13,.v 13),(14,.v 14),(15,.v 15)])
 (.seq
 (.reg false [p (.fad 4 (.v 2)),
 p (.load (none) (.r 0)),
 p (.mov (.v 6)),
 p (.iad 5 (.r 1) (.r 0)),
 p (.fad 0 (.r 0)),
 p (.load (none) (.r 0)),
 p (.bin .neq (.r 0) (.k (.int .i64 3)))] [(2,.v 2),(13,.v 13),(14,.v 14),(15,.v 15),(25,.r 0)])
 (.cond (.v 25)
 (.seq
 (.reg false [p (.mov (.k (.bool false)))] [(4,.r 0)])
 .ret)
 .skip))))
 (.reg false [p (.bin .add (.v 15) (.k (.int .i64 1))),
 p (.mov (.r 0))] [(2,.v 2),(13,.v 13),(14,.v 14),(15,.r 0)])))))))
 (.frz
 (.seq
 (.reg false [p (.mov (.k (.bool true)))] [(4,.r 0)])
 .ret))))
def r134:List RV:=[.t 4]
theorem en134:EnP Tryz.prog 134 27 c134 r134:=a0x (by kernel_rfl) Tryz.func134 (by kernel_rfl) ⟨_,rfl,by kernel_rfl,by kernel_rfl⟩
def c107:C :=
  (.seq
 (.reg false [p (.box 5 (.v 0)),
 p (.mov (.k (.int .i64 0)))] [(1,.v 1),(2,.r 1)])
 (.seq
 (.reg false [p (.mov (.k (.int .i64 (-1))))] [(1,.v 1),(2,.v 2),(5,.r 0)])
 (.seq
 (.seq
 (.reg false [p (.fad 4 (.v 2)),
 p (.load (none) (.r 0)),
 p (.len false (.r 0)),
 p (.mov (.k (.int .i64 0)))] [(1,.v 1),(2,.v 2),(5,.v 5),(9,.r 2),(10,.r 1),(11,.r 0)])
 (.block 0
 (.loop
 (.seq
 (.reg false [p (.bin .lss (.v 11) (.v 10))] [(1,.v 1),(2,.v 2),(5,.v 5),(9,.v 9),(10,.v 10),(11,.v 11),(12,.r 0)])
 (.seq
 (.cond (.v 12)
 .skip
 (.exit 0))
 (.seq
 (.block 1
 (.seq
 (.reg false [p (.mov (.v 11)),
 p (.iad 5 (.v 9) (.v 11)),
 p (.load (some 5) (.r 0)),
 p (.alloc 5 (.agg [.int .i64 0,.int .i64 0,.int .i64 0,.int .i64 0,.str []])),
 p (.mov (.r 3)),
 p (.store (some 5) (.r 1) (.r 2))] [(1,.v 1),(2,.v 2),(5,.v 5),(6,.r 1),(7,.r 2),(9,.v 9),(10,.v 10),(11,.v 11)])
 (.seq
 (.reg true [p (.fad 0 (.v 7)),
 p (.load (none) (.r 0)),
 p (.bin .eql (.r 0) (.k (.int .i64 2))),
 p (.mov (.r 0)),
 ⟨.fad 2 (.v 7),some (0,true),[]⟩,
 ⟨.load (none) (.r 0),some (1,true),[]⟩,
 ⟨.mov (.v 1),some (2,true),[]⟩,
 ⟨.call true (.k (.fn 164 [] [])) [.r 0],some (3,true),[]⟩,
 ⟨.bin .leq (.r 2) (.r 0),some (4,true),[]⟩,
 p (.pick (.r 5) (.r 0) (.k (.bool false)))] [(1,.v 1),(2,.v 2),(5,.v 5),(6,.v 6),(7,.v 7),(9,.v 9),(10,.v 10),(11,.v 11),(25,.r 0)])
 (.cond (.v 25)
 (.seq
 (.reg true [p (.mov (.v 5)),
 p (.bin .lss (.r 0) (.k (.int .i64 0))),
 p (.mov (.r 0)),
 ⟨.fad 2 (.v 7),some (0,false),[]⟩,
 ⟨.load (none) (.r 0),some (1,false),[]⟩,
 ⟨.fad 4 (.v 2),some (2,false),[]⟩,
 ⟨.load (none) (.r 0),some (3,false),[]⟩,
 ⟨.mov (.v 5),some (4,false),[]⟩,
 ⟨.iad 5 (.r 1) (.r 0),some (5,false),[]⟩,
 ⟨.fad 2 (.r 0),some (6,false),[]⟩,
 ⟨.load (none) (.r 0),some (7,false),[]⟩,
 ⟨.bin .lss (.r 6) (.r 0),some (8,false),[]⟩,
 p (.pick (.r 9) (.k (.bool true)) (.r 0))] [(1,.v 1),(2,.v 2),(5,.v 5),(6,.v 6),(9,.v 9),(10,.v 10),(11,.v 11),(38,.r 0)])
 (.cond (.v 38)
 (.reg false [p (.mov (.v 6)),
 p (.mov (.r 0))] [(1,.v 1),(2,.v 2),(5,.r 0),(9,.v 9),(10,.v 10),(11,.v 11)])
 .skip))
 .skip))))
 (.reg false [p (.bin .add (.v 11) (.k (.int .i64 1))),
 p (.mov (.r 0))] [(1,.v 1),(2,.v 2),(5,.v 5),(9,.v 9),(10,.v 10),(11,.r 0)])))))))
 (.frz
 (.seq
 (.reg false [p (.mov (.v 5)),
 p (.mov (.r 0))] [(4,.r 0)])
 .ret)))))
def r107:List RV:=[.t 4]
theorem en107:EnP Tryz.prog 107 42 c107 r107:=a0x (by kernel_rfl) Tryz.func107 (by kernel_rfl) ⟨_,rfl,by kernel_rfl,by kernel_rfl⟩
def c109:C :=
  (.seq
 (.reg false [p (.box 5 (.v 0)),
 p (.box 5 (.v 2)),
 p (.alloc 5 (.agg [.str [],.str [],.fsl .nil 4 [],.int .i64 0,.fsl .nil 5 []]))] [(1,.v 1),(3,.r 2),(5,.r 1),(6,.r 0)])
 (.seq
 (.reg false [p (.fad 0 (.v 3)),
 p (.load (none) (.r 0)),
 p (.fad 1 (.v 3)),
 p (.load (some 2) (.r 0)),
 p (.fad 3 (.v 3)),
 p (.load (none) (.r 0)),
 p (.build [.str [],.str [],.fsl .nil 4 [],.int .i64 0,.fsl .nil 5 []] [(0,1,.r 4),(1,2,.r 2),(3,1,.r 0)]),
 p (.alloc 5 (.agg [.str [],.str [],.fsl .nil 4 [],.int .i64 0,.fsl .nil 5 []])),
 p (.store (some 5) (.r 0) (.r 1))] [(1,.v 1),(3,.v 3),(5,.v 5),(6,.v 6),(7,.r 1)])
 (.seq
 (.seq
 (.reg false [p (.fad 4 (.v 3)),
 p (.load (none) (.r 0)),
 p (.len false (.r 0)),
 p (.mov (.k (.int .i64 0)))] [(1,.v 1),(5,.v 5),(6,.v 6),(7,.v 7),(18,.r 2),(19,.r 1),(20,.r 0)])
 (.block 0
 (.loop
 (.seq
 (.reg false [p (.bin .lss (.v 20) (.v 19))] [(1,.v 1),(5,.v 5),(6,.v 6),(7,.v 7),(18,.v 18),(19,.v 19),(20,.v 20),(21,.r 0)])
 (.seq
 (.cond (.v 21)
 .skip
 (.exit 0))
 (.seq
 (.block 1
 (.seq
 (.reg false [p (.mov (.v 20)),
 p (.iad 5 (.v 18) (.v 20)),
 p (.load (some 5) (.r 0)),
 p (.alloc 5 (.agg [.int .i64 0,.int .i64 0,.int .i64 0,.int .i64 0,.str []])),
 p (.mov (.r 3)),
 p (.store (some 5) (.r 1) (.r 2))] [(1,.v 1),(5,.v 5),(6,.v 6),(7,.v 7),(8,.r 1),(9,.r 2),(18,.v 18),(19,.v 19),(20,.v 20)])
 (.seq
 (.seq
 (.reg false [p (.mov (.v 8)),
 p (.mov (.v 1)),
 p (.bin .eql (.r 1) (.r 0))] [(1,.v 1),(5,.v 5),(6,.v 6),(7,.v 7),(9,.v 9),(18,.v 18),(19,.v 19),(20,.v 20),(27,.r 0)])
 (.cond (.v 27)
 (.reg false [p (.load (some 5) (.v 5)),
 p (.store (some 5) (.v 9) (.r 0))] [(1,.v 1),(5,.v 5),(6,.v 6),(7,.v 7),(9,.v 9),(18,.v 18),(19,.v 19),(20,.v 20)])
 .skip))
 (.reg false [p (.fad 4 (.v 7)),
 p (.load (none) (.r 0)),
 p (.load (some 5) (.v 9)),
 p (.bsl 5 [.r 0]),
 p (.app 5 48 (.r 2) (.r 0)),
 p (.fad 4 (.v 7)),
 p (.store (none) (.r 0) (.r 1))] [(1,.v 1),(5,.v 5),(6,.v 6),(7,.v 7),(18,.v 18),(19,.v 19),(20,.v 20)]))))
 (.reg false [p (.bin .add (.v 20) (.k (.int .i64 1))),
 p (.mov (.r 0))] [(1,.v 1),(5,.v 5),(6,.v 6),(7,.v 7),(18,.v 18),(19,.v 19),(20,.r 0)])))))))
 (.frz
 (.seq
 (.reg false [p (.load (some 5) (.v 7)),
 p (.store (some 5) (.v 6) (.r 0))] [(6,.v 6)])
 .ret)))))
def r109:List RV:=[.c 6 (some 5)]
theorem en109:EnP Tryz.prog 109 37 c109 r109:=a0x (by kernel_rfl) Tryz.func109 (by kernel_rfl) ⟨_,rfl,by kernel_rfl,by kernel_rfl⟩
def c108:C :=
  (.seq
 (.reg false [p (.box 5 (.v 0)),
 p (.alloc 5 (.agg [.str [],.str [],.fsl .nil 4 [],.int .i64 0,.fsl .nil 5 []]))] [(1,.r 1),(2,.r 0)])
 (.seq
 (.seq
 (.reg false [p (.load (some 5) (.v 1)),
 p (.call true (.k (.fn 170 [] [])) [.r 0,.k (.int .i64 4)])] [(1,.v 1),(2,.v 2),(11,.r 0)])
 (.cond (.v 11)
 (.seq
 (.seq
 (.reg false [p (.fad 4 (.v 1)),
 p (.load (none) (.r 0)),
 p (.len false (.r 0)),
 p (.mov (.k (.int .i64 0)))] [(1,.v 1),(2,.v 2),(13,.r 2),(14,.r 1),(15,.r 0)])
 (.block 0
 (.loop
 (.seq
 (.reg false [p (.bin .lss (.v 15) (.v 14))] [(1,.v 1),(2,.v 2),(13,.v 13),(14,.v 14),(15,.v 15),(16,.r 0)])
 (.seq
 (.cond (.v 16)
 .skip
 (.exit 0))
 (.seq
 (.block 1
 (.seq
 (.reg false [p (.mov (.v 15)),
 p (.iad 5 (.v 13) (.v 15)),
 p (.load (some 5) (.r 0)),
 p (.alloc 5 (.agg [.int .i64 0,.int .i64 0,.int .i64 0,.int .i64 0,.str []])),
 p (.mov (.r 3)),
 p (.store (some 5) (.r 1) (.r 2))] [(1,.v 1),(2,.v 2),(3,.r 1),(4,.r 2),(13,.v 13),(14,.v 14),(15,.v 15)])
 (.reg true [p (.load (some 5) (.v 1)),
 p (.mov (.v 3)),
 p (.load (some 5) (.v 4)),
 p (.call true (.k (.fn 169 [] [])) [.r 0]),
 p (.call true (.k (.fn 109 [] [])) [.r 3,.r 2,.r 0]),
 p (.store (some 5) (.v 1) (.r 0))] [(1,.v 1),(2,.v 2),(13,.v 13),(14,.v 14),(15,.v 15)])))
 (.reg false [p (.bin .add (.v 15) (.k (.int .i64 1))),
 p (.mov (.r 0))] [(1,.v 1),(2,.v 2),(13,.v 13),(14,.v 14),(15,.r 0)])))))))
 (.frz
 (.seq
 (.reg false [p (.fad 3 (.v 1)),
 p (.store (none) (.r 0) (.k (.int .i64 2)))] [(1,.v 1),(2,.v 2)])
 (.seq
 (.reg false [p (.load (some 5) (.v 1)),
 p (.store (some 5) (.v 2) (.r 0))] [(2,.v 2)])
 .ret))))
 .skip))
 (.frz
 (.seq
 (.seq
 (.reg false [p (.fad 4 (.v 1)),
 p (.load (none) (.r 0)),
 p (.len false (.r 0)),
 p (.mov (.k (.int .i64 0)))] [(1,.v 1),(2,.v 2),(29,.r 2),(30,.r 1),(31,.r 0)])
 (.block 2
 (.loop
 (.seq
 (.reg false [p (.bin .lss (.v 31) (.v 30))] [(1,.v 1),(2,.v 2),(29,.v 29),(30,.v 30),(31,.v 31),(32,.r 0)])
 (.seq
 (.cond (.v 32)
 .skip
 (.exit 2))
 (.seq
 (.block 3
 (.seq
 (.reg false [p (.mov (.v 31)),
 p (.iad 5 (.v 29) (.v 31)),
 p (.load (some 5) (.r 0)),
 p (.alloc 5 (.agg [.int .i64 0,.int .i64 0,.int .i64 0,.int .i64 0,.str []])),
 p (.mov (.r 3)),
 p (.store (some 5) (.r 1) (.r 2))] [(1,.v 1),(2,.v 2),(5,.r 1),(6,.r 2),(29,.v 29),(30,.v 30),(31,.v 31)])
 (.seq
 (.reg false [p (.load (some 5) (.v 1)),
 p (.mov (.v 5)),
 p (.call true (.k (.fn 134 [] [])) [.r 1,.r 0])] [(1,.v 1),(2,.v 2),(5,.v 5),(6,.v 6),(29,.v 29),(30,.v 30),(31,.v 31),(38,.r 0)])
 (.cond (.v 38)
 (.reg true [p (.load (some 5) (.v 1)),
 p (.mov (.v 5)),
 p (.load (some 5) (.v 6)),
 p (.call true (.k (.fn 171 [] [])) [.r 0]),
 p (.call true (.k (.fn 109 [] [])) [.r 3,.r 2,.r 0]),
 p (.store (some 5) (.v 1) (.r 0))] [(1,.v 1),(2,.v 2),(29,.v 29),(30,.v 30),(31,.v 31)])
 .skip))))
 (.reg false [p (.bin .add (.v 31) (.k (.int .i64 1))),
 p (.mov (.r 0))] [(1,.v 1),(2,.v 2),(29,.v 29),(30,.v 30),(31,.r 0)])))))))
 (.frz
 (.seq
 (.reg false [p (.mov (.k (.bool true)))] [(1,.v 1),(2,.v 2),(7,.r 0)])
 (.seq
 (.seq
 (.reg false [p (.fad 4 (.v 1)),
 p (.load (none) (.r 0)),
 p (.len false (.r 0)),
 p (.mov (.k (.int .i64 0)))] [(1,.v 1),(2,.v 2),(7,.v 7),(46,.r 2),(47,.r 1),(48,.r 0)])
 (.block 4
 (.loop
 (.seq
 (.reg false [p (.bin .lss (.v 48) (.v 47))] [(1,.v 1),(2,.v 2),(7,.v 7),(46,.v 46),(47,.v 47),(48,.v 48),(49,.r 0)])
 (.seq
 (.cond (.v 49)
 .skip
 (.exit 4))
 (.seq
 (.block 5
 (.seq
 (.reg false [p (.iad 5 (.v 46) (.v 48)),
 p (.load (some 5) (.r 0)),
 p (.alloc 5 (.agg [.int .i64 0,.int .i64 0,.int .i64 0,.int .i64 0,.str []])),
 p (.store (some 5) (.r 0) (.r 1))] [(1,.v 1),(2,.v 2),(7,.v 7),(9,.r 1),(46,.v 46),(47,.v 47),(48,.v 48)])
 (.reg false [p (.mov (.v 7)),
 p (.mov (.r 0)),
 ⟨.fad 0 (.v 9),some (0,true),[]⟩,
 ⟨.load (none) (.r 0),some (1,true),[]⟩,
 ⟨.bin .eql (.r 0) (.k (.int .i64 3)),some (2,true),[]⟩,
 p (.pick (.r 3) (.r 0) (.k (.bool false))),
 p (.mov (.r 0))] [(1,.v 1),(2,.v 2),(7,.r 0),(46,.v 46),(47,.v 47),(48,.v 48)])))
 (.reg false [p (.bin .add (.v 48) (.k (.int .i64 1))),
 p (.mov (.r 0))] [(1,.v 1),(2,.v 2),(7,.v 7),(46,.v 46),(47,.v 47),(48,.r 0)])))))))
 (.frz
 (.seq
 (.seq
 (.reg false [p (.mov (.v 7))] [(1,.v 1),(2,.v 2),(59,.r 0)])
 (.cond (.v 59)
 (.reg false [p (.fad 3 (.v 1)),
 p (.store (none) (.r 0) (.k (.int .i64 1)))] [(1,.v 1),(2,.v 2)])
 .skip))
 (.seq
 (.reg false [p (.load (some 5) (.v 1)),
 p (.store (some 5) (.v 2) (.r 0))] [(2,.v 2)])
 .ret))))))))))
def r108:List RV:=[.c 2 (some 5)]
theorem en108:EnP Tryz.prog 108 62 c108 r108:=a0x (by kernel_rfl) Tryz.func108 (by kernel_rfl) ⟨_,rfl,by kernel_rfl,by kernel_rfl⟩
def c102:C :=
  (.seq
 (.reg false [p (.box 2 (.v 1)),
 p (.alloc 5 (.agg [.str [],.str [],.fsl .nil 4 [],.int .i64 0,.fsl .nil 5 []]))] [(0,.v 0),(3,.r 1),(4,.r 0)])
 (.seq
 (.reg false [p (.mov (.v 0)),
 p (.load (some 2) (.v 3)),
 p (.build [.str [],.str [],.fsl .nil 4 [],.int .i64 0,.fsl .nil 5 []] [(0,1,.r 1),(1,2,.r 0)]),
 p (.alloc 5 (.agg [.str [],.str [],.fsl .nil 4 [],.int .i64 0,.fsl .nil 5 []])),
 p (.store (some 5) (.r 0) (.r 1))] [(3,.v 3),(4,.v 4),(5,.r 1)])
 (.seq
 (.seq
 (.reg false [p (.fad 1 (.v 3)),
 p (.load (none) (.r 0)),
 p (.len false (.r 0)),
 p (.mov (.k (.int .i64 0)))] [(4,.v 4),(5,.v 5),(11,.r 1),(12,.r 0)])
 (.block 0
 (.loop
 (.seq
 (.reg false [p (.bin .lss (.v 12) (.v 11))] [(4,.v 4),(5,.v 5),(11,.v 11),(12,.v 12),(13,.r 0)])
 (.seq
 (.cond (.v 13)
 .skip
 (.exit 0))
 (.seq
 (.block 1
 (.reg false [p (.fad 4 (.v 5)),
 p (.load (none) (.r 0)),
 p (.build [.int .i64 0,.int .i64 0,.int .i64 0,.int .i64 0,.str []] []),
 p (.bsl 5 [.r 0]),
 p (.app 5 48 (.r 2) (.r 0)),
 p (.fad 4 (.v 5)),
 p (.store (none) (.r 0) (.r 1))] [(4,.v 4),(5,.v 5),(11,.v 11),(12,.v 12)]))
 (.reg false [p (.bin .add (.v 12) (.k (.int .i64 1))),
 p (.mov (.r 0))] [(4,.v 4),(5,.v 5),(11,.v 11),(12,.r 0)])))))))
 (.frz
 (.seq
 (.reg false [p (.load (some 5) (.v 5)),
 p (.call true (.k (.fn 108 [] [])) [.r 0]),
 p (.store (some 5) (.v 4) (.r 0))] [(4,.v 4)])
 .ret)))))
def r102:List RV:=[.c 4 (some 5)]
theorem en102:EnP Tryz.prog 102 23 c102 r102:=a0x (by kernel_rfl) Tryz.func102 (by kernel_rfl) ⟨_,rfl,by kernel_rfl,by kernel_rfl⟩
def c47:C :=
  (.seq
 (.reg false [p (.box 5 (.v 0)),
 p (.alloc 5 (.agg [.str [],.str [],.fsl .nil 4 [],.int .i64 0,.fsl .nil 5 []]))] [(1,.v 1),(2,.r 1),(4,.r 0)])
 (.seq
 (.seq
 (.reg false [p (.fad 4 (.v 2)),
 p (.load (none) (.r 0)),
 p (.len false (.r 0)),
 p (.mov (.k (.int .i64 0)))] [(1,.v 1),(2,.v 2),(4,.v 4),(8,.r 1),(9,.r 0)])
 (.block 0
 (.loop
 (.seq
 (.reg false [p (.bin .lss (.v 9) (.v 8))] [(1,.v 1),(2,.v 2),(4,.v 4),(8,.v 8),(9,.v 9),(10,.r 0)])
 (.seq
 (.cond (.v 10)
 .skip
 (.exit 0))
 (.seq
 (.block 1
 (.seq
 (.reg false [p (.load (some 5) (.v 2)),
 p (.mov (.v 1)),
 p (.call true (.k (.fn 107 [] [])) [.r 1,.r 0]),
 p (.mov (.r 0))] [(1,.v 1),(2,.v 2),(4,.v 4),(5,.r 0),(8,.v 8),(9,.v 9)])
 (.seq
 (.reg false [p (.mov (.v 5)),
 p (.bin .geq (.r 0) (.k (.int .i64 0)))] [(1,.v 1),(2,.v 2),(4,.v 4),(5,.v 5),(8,.v 8),(9,.v 9),(15,.r 0)])
 (.cond (.v 15)
 (.reg true [p (.load (some 5) (.v 2)),
 p (.mov (.v 5)),
 p (.fad 1 (.v 2)),
 p (.fad 1 (.r 0)),
 p (.load (none) (.r 0)),
 p (.mov (.v 5)),
 p (.iad 4 (.r 1) (.r 0)),
 p (.load (some 4) (.r 0)),
 p (.fad 4 (.v 2)),
 p (.load (none) (.r 0)),
 p (.mov (.v 5)),
 p (.iad 5 (.r 1) (.r 0)),
 p (.load (some 5) (.r 0)),
 p (.mov (.v 1)),
 p (.call true (.k (.fn 110 [] [])) [.r 6,.r 1,.r 0]),
 p (.call true (.k (.fn 109 [] [])) [.r 14,.r 13,.r 0]),
 p (.call true (.k (.fn 108 [] [])) [.r 0]),
 p (.store (some 5) (.v 2) (.r 0))] [(1,.v 1),(2,.v 2),(4,.v 4),(8,.v 8),(9,.v 9)])
 .skip))))
 (.reg false [p (.bin .add (.v 9) (.k (.int .i64 1))),
 p (.mov (.r 0))] [(1,.v 1),(2,.v 2),(4,.v 4),(8,.v 8),(9,.r 0)])))))))
 (.frz
 (.seq
 (.reg false [p (.load (some 5) (.v 2)),
 p (.store (some 5) (.v 4) (.r 0))] [(4,.v 4)])
 .ret))))
def r47:List RV:=[.c 4 (some 5)]
theorem en47:EnP Tryz.prog 47 35 c47 r47:=a0x (by kernel_rfl) Tryz.func47 (by kernel_rfl) ⟨_,rfl,by kernel_rfl,by kernel_rfl⟩
def c57:C :=
  (.seq
 (.reg false [p (.box 5 (.v 0)),
 p (.alloc 1 (.bool false))] [(1,.r 1),(2,.r 0)])
 (.seq
 (.seq
 (.reg true [p (.fad 0 (.v 1)),
 p (.load (none) (.r 0)),
 p (.call true (.k (.fn 123 [] [])) [.r 0]),
 p (.un .not (.r 0)),
 p (.mov (.r 0)),
 ⟨.fad 1 (.v 1),some (0,false),[]⟩,
 ⟨.load (some 2) (.r 0),some (1,false),[]⟩,
 ⟨.call true (.k (.fn 54 [] [])) [.r 0],some (2,false),[]⟩,
 ⟨.bin .neq (.r 0) (.k (.int .i64 0)),some (3,false),[]⟩,
 p (.pick (.r 4) (.k (.bool true)) (.r 0)),
 p (.mov (.r 0)),
 ⟨.fad 4 (.v 1),some (0,false),[]⟩,
 ⟨.load (none) (.r 0),some (1,false),[]⟩,
 ⟨.len false (.r 0),some (2,false),[]⟩,
 ⟨.fad 1 (.v 1),some (3,false),[]⟩,
 ⟨.fad 1 (.r 0),some (4,false),[]⟩,
 ⟨.load (none) (.r 0),some (5,false),[]⟩,
 ⟨.len false (.r 0),some (6,false),[]⟩,
 ⟨.bin .neq (.r 4) (.r 0),some (7,false),[]⟩,
 p (.pick (.r 8) (.k (.bool true)) (.r 0)),
 p (.mov (.r 0)),
 ⟨.fad 3 (.v 1),some (0,false),[]⟩,
 ⟨.load (none) (.r 0),some (1,false),[]⟩,
 ⟨.load (some 5) (.v 1),some (2,false),[]⟩,
 ⟨.call true (.k (.fn 124 [] [])) [.r 0],some (3,false),[]⟩,
 ⟨.bin .neq (.r 2) (.r 0),some (4,false),[]⟩,
 p (.pick (.r 5) (.k (.bool true)) (.r 0))] [(1,.v 1),(2,.v 2),(33,.r 0)])
 (.cond (.v 33)
 (.seq
 (.reg false [p (.store (none) (.v 2) (.k (.bool false)))] [(2,.v 2)])
 .ret)
 .skip))
 (.seq
 (.reg false [p (.mkm),
 p (.alloc 1 (.nilm)),
 p (.store (none) (.r 0) (.r 1))] [(1,.v 1),(2,.v 2),(3,.r 1)])
 (.seq
 (.seq
 (.reg false [p (.load (some 5) (.v 1)),
 p (.call true (.k (.fn 125 [] [])) [.r 0])] [(1,.v 1),(2,.v 2),(3,.v 3),(36,.r 0)])
 (.block 0
 (.rf (.v 36) [37,38]
 (.seq
 (.reg false [p (.mov (.v 37))] [(1,.v 1),(2,.v 2),(3,.v 3),(4,.r 0),(38,.v 38)])
 (.reg false [p (.alloc 5 (.agg [.int .i64 0,.int .i64 0,.int .i64 0,.int .i64 0,.str []])),
 p (.store (some 5) (.r 0) (.v 38))] [(1,.v 1),(2,.v 2),(3,.v 3),(4,.v 4),(5,.r 1)]))
 (.block 1
 (.seq
 (.seq
 (.reg true [p (.fad 1 (.v 1)),
 p (.fad 1 (.r 0)),
 p (.load (none) (.r 0)),
 p (.mov (.v 4)),
 p (.iad 4 (.r 1) (.r 0)),
 p (.load (some 4) (.r 0)),
 p (.load (some 5) (.v 5)),
 p (.call true (.k (.fn 126 [] [])) [.r 1,.r 0]),
 p (.un .not (.r 0)),
 p (.mov (.r 0)),
 ⟨.fad 3 (.v 5),some (0,false),[]⟩,
 ⟨.load (none) (.r 0),some (1,false),[]⟩,
 ⟨.bin .gtr (.r 0) (.k (.int .i64 0)),some (2,false),[]⟩,
 ⟨.mov (.r 0),some (3,false),[]⟩,
 ⟨.load (none) (.v 3),some (0,true),[]⟩,
 ⟨.fad 3 (.v 5),some (1,true),[]⟩,
 ⟨.load (none) (.r 0),some (2,true),[]⟩,
 ⟨.mlk false [7] (.bool false) (.r 2) (.r 0),some (3,true),[]⟩,
 ⟨.pick (.r 4) (.r 0) (.k (.bool false)),some (8,false),[]⟩,
 p (.pick (.r 9) (.k (.bool true)) (.r 0))] [(1,.v 1),(2,.v 2),(3,.v 3),(4,.v 4),(5,.v 5),(58,.r 0)])
 (.cond (.v 58)
 (.seq
 (.reg false [p (.store (none) (.v 2) (.k (.bool false)))] [])
 .ret)
 .skip))
 (.seq
 (.reg false [p (.load (none) (.v 3)),
 p (.fad 3 (.v 5)),
 p (.load (none) (.r 0)),
 p (.mup [7] (.r 2) (.r 0) (.k (.bool true)))] [(1,.v 1),(2,.v 2),(4,.v 4),(5,.v 5)])
 (.seq
 (.reg true [p (.fad 0 (.v 5)),
 p (.load (none) (.r 0)),
 p (.bin .neq (.r 0) (.k (.int .i64 5))),
 p (.mov (.r 0)),
 ⟨.fad 0 (.v 5),some (0,true),[]⟩,
 ⟨.load (none) (.r 0),some (1,true),[]⟩,
 ⟨.bin .eql (.r 0) (.k (.int .i64 0)),some (2,true),[]⟩,
 ⟨.load (some 5) (.v 1),some (3,true),[]⟩,
 ⟨.mov (.v 4),some (4,true),[]⟩,
 ⟨.call true (.k (.fn 127 [] [])) [.r 1,.r 0],some (5,true),[]⟩,
 ⟨.eqb false (.r 3) (.r 0),some (6,true),[]⟩,
 p (.pick (.r 7) (.r 0) (.k (.bool false)))] [(2,.v 2),(73,.r 0)])
 (.cond (.v 73)
 (.seq
 (.reg false [p (.store (none) (.v 2) (.k (.bool false)))] [])
 .ret)
 .skip))))))))
 (.seq
 (.reg false [p (.load (some 5) (.v 1)),
 p (.bsl 1 [.k (.int .i64 0),.k (.int .i64 1),.k (.int .i64 2)]),
 p (.call true (.k (.fn 128 [] [])) [.r 1,.r 0]),
 p (.mov (.r 0))] [(1,.v 1),(2,.v 2),(6,.r 0)])
 (.seq
 (.seq
 (.reg false [p (.fad 3 (.v 1)),
 p (.load (none) (.r 0))] [(1,.v 1),(2,.v 2),(6,.v 6),(78,.r 0)])
 (.block 2
 (.seq
 (.reg false [p (.bin .eql (.v 78) (.k (.int .i64 2))),
 p (.mov (.r 0))] [(1,.v 1),(2,.v 2),(6,.v 6),(78,.v 78),(79,.r 0)])
 (.cond (.v 79)
 (.seq
 (.reg false [p (.mov (.v 6)),
 p (.bin .eql (.r 0) (.k (.int .i64 0))),
 p (.store (none) (.v 2) (.r 0))] [(2,.v 2)])
 .ret)
 (.seq
 (.reg false [p (.bin .eql (.v 78) (.k (.int .i64 0))),
 p (.mov (.r 0))] [(1,.v 1),(2,.v 2),(83,.r 0)])
 (.cond (.v 83)
 (.seq
 (.reg false [p (.load (some 5) (.v 1)),
 p (.bsl 1 [.k (.int .i64 5)]),
 p (.call true (.k (.fn 128 [] [])) [.r 1,.r 0]),
 p (.bin .eql (.r 0) (.k (.int .i64 0))),
 p (.store (none) (.v 2) (.r 0))] [(2,.v 2)])
 .ret)
 .skip))))))
 (.seq
 (.reg false [p (.store (none) (.v 2) (.k (.bool true)))] [(2,.v 2)])
 .ret)))))))
def r57:List RV:=[.c 2 (none)]
theorem en57:EnP Tryz.prog 57 89 c57 r57:=a0x (by kernel_rfl) Tryz.func57 (by kernel_rfl) ⟨_,rfl,by kernel_rfl,by kernel_rfl⟩
def c61:C :=
  (.seq
 (.reg false [p (.box 5 (.v 0)),
 p (.mov (.k (.bool false)))] [(1,.r 1)])
 (.seq
 (.seq
 (.reg false [p (.fad 0 (.v 1)),
 p (.load (none) (.r 0)),
 p (.len true (.r 0)),
 p (.bin .lss (.r 0) (.k (.int .i64 1))),
 p (.mov (.r 0)),
 ⟨.fad 0 (.v 1),some (0,false),[]⟩,
 ⟨.load (none) (.r 0),some (1,false),[]⟩,
 ⟨.len true (.r 0),some (2,false),[]⟩,
 ⟨.bin .gtr (.r 0) (.k (.int .i64 16)),some (3,false),[]⟩,
 p (.pick (.r 4) (.k (.bool true)) (.r 0)),
 p (.mov (.r 0)),
 ⟨.fad 1 (.v 1),some (0,false),[]⟩,
 ⟨.load (some 2) (.r 0),some (1,false),[]⟩,
 ⟨.call true (.k (.fn 58 [] [])) [.r 0],some (2,false),[]⟩,
 ⟨.bin .neq (.r 0) (.k (.int .i64 0)),some (3,false),[]⟩,
 p (.pick (.r 4) (.k (.bool true)) (.r 0)),
 p (.mov (.r 0)),
 ⟨.fad 4 (.v 1),some (0,false),[]⟩,
 ⟨.load (none) (.r 0),some (1,false),[]⟩,
 ⟨.len false (.r 0),some (2,false),[]⟩,
 ⟨.fad 1 (.v 1),some (3,false),[]⟩,
 ⟨.fad 1 (.r 0),some (4,false),[]⟩,
 ⟨.load (none) (.r 0),some (5,false),[]⟩,
 ⟨.len false (.r 0),some (6,false),[]⟩,
 ⟨.bin .neq (.r 4) (.r 0),some (7,false),[]⟩,
 p (.pick (.r 8) (.k (.bool true)) (.r 0)),
 p (.mov (.r 0)),
 ⟨.load (some 5) (.v 1),some (0,false),[]⟩,
 ⟨.call true (.k (.fn 132 [] [])) [.r 0],some (1,false),[]⟩,
 ⟨.un .not (.r 0),some (2,false),[]⟩,
 p (.pick (.r 3) (.k (.bool true)) (.r 0))] [(1,.v 1),(36,.r 0)])
 (.cond (.v 36)
 (.seq
 (.reg false [p (.mov (.k (.bool false)))] [(2,.r 0)])
 .ret)
 .skip))
 (.seq
 (.seq
 (.reg false [p (.fad 4 (.v 1)),
 p (.load (none) (.r 0)),
 p (.len false (.r 0)),
 p (.mov (.k (.int .i64 0)))] [(1,.v 1),(38,.r 2),(39,.r 1),(40,.r 0)])
 (.block 0
 (.loop
 (.seq
 (.reg false [p (.bin .lss (.v 40) (.v 39))] [(1,.v 1),(38,.v 38),(39,.v 39),(40,.v 40),(41,.r 0)])
 (.seq
 (.cond (.v 41)
 .skip
 (.exit 0))
 (.seq
 (.block 1
 (.seq
 (.reg false [p (.mov (.v 40)),
 p (.iad 5 (.v 38) (.v 40)),
 p (.load (some 5) (.r 0)),
 p (.alloc 5 (.agg [.int .i64 0,.int .i64 0,.int .i64 0,.int .i64 0,.str []])),
 p (.mov (.r 3)),
 p (.store (some 5) (.r 1) (.r 2))] [(1,.v 1),(3,.r 1),(4,.r 2),(38,.v 38),(39,.v 39),(40,.v 40)])
 (.seq
 (.seq
 (.reg true [p (.fad 1 (.v 1)),
 p (.fad 1 (.r 0)),
 p (.load (none) (.r 0)),
 p (.mov (.v 3)),
 p (.iad 4 (.r 1) (.r 0)),
 p (.load (some 4) (.r 0)),
 p (.load (some 5) (.v 4)),
 p (.call true (.k (.fn 133 [] [])) [.r 1,.r 0]),
 p (.un .not (.r 0))] [(1,.v 1),(3,.v 3),(4,.v 4),(38,.v 38),(39,.v 39),(40,.v 40),(53,.r 0)])
 (.cond (.v 53)
 (.seq
 (.reg false [p (.mov (.k (.bool false)))] [(2,.r 0)])
 .ret)
 .skip))
 (.seq
 (.seq
 (.reg false [p (.mov (.k (.int .i64 0)))] [(1,.v 1),(3,.v 3),(4,.v 4),(5,.r 0),(38,.v 38),(39,.v 39),(40,.v 40)])
 (.block 2
 (.loop
 (.seq
 (.seq
 (.reg false [p (.mov (.v 5)),
 p (.mov (.v 3)),
 p (.bin .lss (.r 1) (.r 0))] [(1,.v 1),(3,.v 3),(4,.v 4),(5,.v 5),(38,.v 38),(39,.v 39),(40,.v 40),(56,.r 0)])
 (.cond (.v 56)
 .skip
 (.exit 2)))
 (.seq
 (.block 3
 (.seq
 (.reg true [p (.fad 3 (.v 4)),
 p (.load (none) (.r 0)),
 p (.bin .gtr (.r 0) (.k (.int .i64 0))),
 p (.mov (.r 0)),
 ⟨.fad 4 (.v 1),some (0,true),[]⟩,
 ⟨.load (none) (.r 0),some (1,true),[]⟩,
 ⟨.mov (.v 5),some (2,true),[]⟩,
 ⟨.iad 5 (.r 1) (.r 0),some (3,true),[]⟩,
 ⟨.fad 3 (.r 0),some (4,true),[]⟩,
 ⟨.load (none) (.r 0),some (5,true),[]⟩,
 ⟨.fad 3 (.v 4),some (6,true),[]⟩,
 ⟨.load (none) (.r 0),some (7,true),[]⟩,
 ⟨.bin .eql (.r 2) (.r 0),some (8,true),[]⟩,
 p (.pick (.r 9) (.r 0) (.k (.bool false)))] [(1,.v 1),(3,.v 3),(4,.v 4),(5,.v 5),(38,.v 38),(39,.v 39),(40,.v 40),(72,.r 0)])
 (.cond (.v 72)
 (.seq
 (.reg false [p (.mov (.k (.bool false)))] [(2,.r 0)])
 .ret)
 .skip)))
 (.reg false [p (.mov (.v 5)),
 p (.bin .add (.r 0) (.k (.int .i64 1))),
 p (.mov (.r 0))] [(1,.v 1),(3,.v 3),(4,.v 4),(5,.r 0),(38,.v 38),(39,.v 39),(40,.v 40)]))))))
 (.frz
 (.seq
 (.seq
 (.reg false [p (.fad 0 (.v 4)),
 p (.load (none) (.r 0)),
 p (.bin .eql (.r 0) (.k (.int .i64 0))),
 p (.mov (.r 0)),
 ⟨.load (some 5) (.v 1),some (0,true),[]⟩,
 ⟨.mov (.v 3),some (1,true),[]⟩,
 ⟨.call true (.k (.fn 134 [] [])) [.r 1,.r 0],some (2,true),[]⟩,
 p (.pick (.r 3) (.r 0) (.k (.bool false)))] [(1,.v 1),(3,.v 3),(4,.v 4),(38,.v 38),(39,.v 39),(40,.v 40),(80,.r 0)])
 (.cond (.v 80)
 (.seq
 (.reg false [p (.mov (.k (.bool false)))] [(2,.r 0)])
 .ret)
 .skip))
 (.seq
 (.reg false [p (.fad 0 (.v 4)),
 p (.load (none) (.r 0)),
 p (.bin .neq (.r 0) (.k (.int .i64 0))),
 p (.mov (.r 0)),
 ⟨.fad 0 (.v 4),some (0,true),[]⟩,
 ⟨.load (none) (.r 0),some (1,true),[]⟩,
 ⟨.bin .neq (.r 0) (.k (.int .i64 5)),some (2,true),[]⟩,
 p (.pick (.r 3) (.r 0) (.k (.bool false))),
 p (.mov (.r 0)),
 ⟨.load (some 5) (.v 1),some (0,true),[]⟩,
 ⟨.mov (.v 3),some (1,true),[]⟩,
 ⟨.call true (.k (.fn 134 [] [])) [.r 1,.r 0],some (2,true),[]⟩,
 ⟨.un .not (.r 0),some (3,true),[]⟩,
 p (.pick (.r 4) (.r 0) (.k (.bool false)))] [(1,.v 1),(38,.v 38),(39,.v 39),(40,.v 40),(94,.r 0)])
 (.cond (.v 94)
 (.seq
 (.reg false [p (.mov (.k (.bool false)))] [(2,.r 0)])
 .ret)
 .skip))))))))
 (.frz
 (.reg false [p (.bin .add (.v 40) (.k (.int .i64 1))),
 p (.mov (.r 0))] [(1,.v 1),(38,.v 38),(39,.v 39),(40,.r 0)]))))))))
 (.frz
 (.seq
 (.reg false [p (.mov (.k (.bool true)))] [(2,.r 0)])
 .ret)))))
def r61:List RV:=[.t 2]
theorem en61:EnP Tryz.prog 61 96 c61 r61:=a0x (by kernel_rfl) Tryz.func61 (by kernel_rfl) ⟨_,rfl,by kernel_rfl,by kernel_rfl⟩
def c200:C :=
  (.seq
 (.reg false [p (.box 5 (.v 0)),
 p (.alloc 5 (.agg [.str [],.str [],.fsl .nil 4 [],.int .i64 0,.fsl .nil 5 []]))] [(1,.r 1),(2,.r 0)])
 (.seq
 (.reg false [p (.fad 4 (.v 1)),
 p (.load (none) (.r 0)),
 p (.call false (.k (.fn 206 [] [])) [.r 0]),
 p (.fad 4 (.v 1)),
 p (.store (none) (.r 0) (.r 1))] [(1,.v 1),(2,.v 2)])
 (.seq
 (.seq
 (.reg false [p (.load (some 5) (.v 1)),
 p (.bsl 1 [.k (.int .i64 4)]),
 p (.call false (.k (.fn 128 [] [])) [.r 1,.r 0]),
 p (.bin .gtr (.r 0) (.k (.int .i64 0)))] [(1,.v 1),(2,.v 2),(14,.r 0)])
 (.cond (.v 14)
 (.seq
 (.seq
 (.reg false [p (.fad 4 (.v 1)),
 p (.load (none) (.r 0)),
 p (.len false (.r 0)),
 p (.mov (.k (.int .i64 0)))] [(1,.v 1),(2,.v 2),(16,.r 2),(17,.r 1),(18,.r 0)])
 (.block 0
 (.loop
 (.seq
 (.reg false [p (.bin .lss (.v 18) (.v 17))] [(1,.v 1),(2,.v 2),(16,.v 16),(17,.v 17),(18,.v 18),(19,.r 0)])
 (.seq
 (.cond (.v 19)
 .skip
 (.exit 0))
 (.seq
 (.block 1
 (.seq
 (.reg false [p (.mov (.v 18)),
 p (.iad 5 (.v 16) (.v 18)),
 p (.load (some 5) (.r 0)),
 p (.alloc 5 (.agg [.int .i64 0,.int .i64 0,.int .i64 0,.int .i64 0,.str []])),
 p (.mov (.r 3)),
 p (.store (some 5) (.r 1) (.r 2))] [(1,.v 1),(2,.v 2),(3,.r 1),(4,.r 2),(16,.v 16),(17,.v 17),(18,.v 18)])
 (.reg true [p (.fad 4 (.v 1)),
 p (.load (none) (.r 0)),
 p (.mov (.v 3)),
 p (.load (some 5) (.v 4)),
 p (.call true (.k (.fn 217 [] [])) [.r 0]),
 p (.iad 5 (.r 3) (.r 2)),
 p (.store (some 5) (.r 0) (.r 1))] [(1,.v 1),(2,.v 2),(16,.v 16),(17,.v 17),(18,.v 18)])))
 (.reg false [p (.bin .add (.v 18) (.k (.int .i64 1))),
 p (.mov (.r 0))] [(1,.v 1),(2,.v 2),(16,.v 16),(17,.v 17),(18,.r 0)])))))))
 (.frz
 (.seq
 (.reg false [p (.fad 3 (.v 1)),
 p (.store (none) (.r 0) (.k (.int .i64 2)))] [(1,.v 1),(2,.v 2)])
 (.seq
 (.reg false [p (.load (some 5) (.v 1)),
 p (.store (some 5) (.v 2) (.r 0))] [(2,.v 2)])
 .ret))))
 .skip))
 (.frz
 (.seq
 (.seq
 (.reg false [p (.fad 4 (.v 1)),
 p (.load (none) (.r 0)),
 p (.len false (.r 0)),
 p (.mov (.k (.int .i64 0)))] [(1,.v 1),(2,.v 2),(33,.r 2),(34,.r 1),(35,.r 0)])
 (.block 2
 (.loop
 (.seq
 (.reg false [p (.bin .lss (.v 35) (.v 34))] [(1,.v 1),(2,.v 2),(33,.v 33),(34,.v 34),(35,.v 35),(36,.r 0)])
 (.seq
 (.cond (.v 36)
 .skip
 (.exit 2))
 (.seq
 (.block 3
 (.seq
 (.reg false [p (.mov (.v 35)),
 p (.iad 5 (.v 33) (.v 35)),
 p (.load (some 5) (.r 0)),
 p (.alloc 5 (.agg [.int .i64 0,.int .i64 0,.int .i64 0,.int .i64 0,.str []])),
 p (.mov (.r 3)),
 p (.store (some 5) (.r 1) (.r 2))] [(1,.v 1),(2,.v 2),(5,.r 1),(6,.r 2),(33,.v 33),(34,.v 34),(35,.v 35)])
 (.seq
 (.reg false [p (.load (some 5) (.v 1)),
 p (.mov (.v 5)),
 p (.call false (.k (.fn 127 [] [])) [.r 1,.r 0])] [(1,.v 1),(2,.v 2),(5,.v 5),(6,.v 6),(33,.v 33),(34,.v 34),(35,.v 35),(42,.r 0)])
 (.cond (.v 42)
 (.reg true [p (.fad 4 (.v 1)),
 p (.load (none) (.r 0)),
 p (.mov (.v 5)),
 p (.load (some 5) (.v 6)),
 p (.call true (.k (.fn 233 [] [])) [.r 0]),
 p (.iad 5 (.r 3) (.r 2)),
 p (.store (some 5) (.r 0) (.r 1))] [(1,.v 1),(2,.v 2),(33,.v 33),(34,.v 34),(35,.v 35)])
 .skip))))
 (.reg false [p (.bin .add (.v 35) (.k (.int .i64 1))),
 p (.mov (.r 0))] [(1,.v 1),(2,.v 2),(33,.v 33),(34,.v 34),(35,.r 0)])))))))
 (.frz
 (.seq
 (.seq
 (.reg true [p (.load (some 5) (.v 1)),
 p (.bsl 1 [.k (.int .i64 3)]),
 p (.call false (.k (.fn 128 [] [])) [.r 1,.r 0]),
 p (.fad 4 (.v 1)),
 ⟨.load (none) (.r 0),none,[1]⟩,
 p (.len false (.r 0)),
 p (.bin .eql (.r 3) (.r 0))] [(1,.v 1),(2,.v 2),(56,.r 0)])
 (.cond (.v 56)
 (.reg false [p (.fad 3 (.v 1)),
 p (.store (none) (.r 0) (.k (.int .i64 1)))] [(1,.v 1),(2,.v 2)])
 .skip))
 (.seq
 (.reg false [p (.load (some 5) (.v 1)),
 p (.store (some 5) (.v 2) (.r 0))] [(2,.v 2)])
 .ret))))))))
def r200:List RV:=[.c 2 (some 5)]
theorem en200:EnP Tryz.prog 200 59 c200 r200:=a0x (by kernel_rfl) Tryz.func200 (by kernel_rfl) ⟨_,rfl,by kernel_rfl,by kernel_rfl⟩
def a3z (s:Stt):Bool:=decide (0≤s.is∧s.is≤5∧0≤s.tried∧s.tried≤8∧0≤s.due∧s.due≤1099511627776)
def a2g (s:Stt):Bool:=a3z s && decide (0≤s.token∧s.token≤1099511627776∧(0 < s.token↔s.is=2)∧s.result.length≤16∧(s.result=[]∨s.is=3))
theorem b8u (s:Stt) (hs:s.result.length≤4611686018427387904):PCall Tryz.prog 137 [sttV s] (.bool (a2g s)):=by
  refine en137 (by simp) (by simp [a0b,V.closed,a0e]) ?_
  have no:a3z s=false→a2g s=false:=fun h => by simp [a2g,h]
  simp (maxSteps:=1000000) (disch:=omega) only [rg,gD,simprocAttr,c137,sttV]
  by_cases c1:s.is < 0
  · simp (maxSteps:=1000000) (disch:=omega) only [rg,gD,simprocAttr,c1]
    (refine a0f rfl ?_ ?_<;>simp [pack,lo,loL,V.closed,a0b,a0a,no (by simp [a3z]; omega)])
  by_cases c2:5 < s.is
  · simp (maxSteps:=1000000) (disch:=omega) only [rg,gD,simprocAttr,c1,c2]
    (refine a0f rfl ?_ ?_<;>simp [pack,lo,loL,V.closed,a0b,a0a,no (by simp [a3z]; omega)])
  by_cases c3:s.tried < 0
  · simp (maxSteps:=1000000) (disch:=omega) only [rg,gD,simprocAttr,c1,c2,c3]
    (refine a0f rfl ?_ ?_<;>simp [pack,lo,loL,V.closed,a0b,a0a,no (by simp [a3z]; omega)])
  by_cases c4:8 < s.tried
  · simp (maxSteps:=1000000) (disch:=omega) only [rg,gD,simprocAttr,c1,c2,c3,c4]
    (refine a0f rfl ?_ ?_<;>simp [pack,lo,loL,V.closed,a0b,a0a,no (by simp [a3z]; omega)])
  by_cases c5:s.due < 0
  · simp (maxSteps:=1000000) (disch:=omega) only [rg,gD,simprocAttr,c1,c2,c3,c4,c5]
    (refine a0f rfl ?_ ?_<;>simp [pack,lo,loL,V.closed,a0b,a0a,no (by simp [a3z]; omega)])
  by_cases c6:1099511627776 < s.due
  · simp (maxSteps:=1000000) (disch:=omega) only [rg,gD,simprocAttr,c1,c2,c3,c4,c5,c6]
    (refine a0f rfl ?_ ?_<;>simp [pack,lo,loL,V.closed,a0b,a0a,no (by simp [a3z]; omega)])
  have yes:a3z s=true:=by simp [a3z]; omega
  have hS:a2g s=decide (0≤s.token∧s.token≤1099511627776∧(0 < s.token↔s.is=2)∧s.result.length≤16∧(s.result=[]∨s.is=3)):=by rw [a2g,yes,Bool.true_and]
  by_cases d1:s.token < 0
  · simp (maxSteps:=1000000) (disch:=omega) only [rg,gD,simprocAttr,c1,c2,c3,c4,c5,c6,d1]
    (refine a0f rfl ?_ ?_<;>simp [pack,lo,loL,V.closed,a0b,a0a,hS.trans (decide_eq_false (by omega))])
  by_cases d2:1099511627776 < s.token
  · simp (maxSteps:=1000000) (disch:=omega) only [rg,gD,simprocAttr,c1,c2,c3,c4,c5,c6,d1,d2]
    (refine a0f rfl ?_ ?_<;>simp [pack,lo,loL,V.closed,a0b,a0a,hS.trans (decide_eq_false (by omega))])
  simp (maxSteps:=1000000) (disch:=omega) only [rg,gD,simprocAttr,c1,c2,c3,c4,c5,c6,d1,d2]
  refine ⟨fun h => ?_,fun h => ⟨fun h2 => ⟨fun h3 => ?_,fun h3 => ?_⟩,fun h2 => ?_⟩⟩
  · have h':¬ (0 < s.token↔s.is=2):=fun hc => by simp [hc] at h
    (refine a0f rfl ?_ ?_<;>simp [pack,lo,loL,V.closed,a0b,a0a,hS.trans (decide_eq_false (fun hc => h' hc.2.2.1))])
  · have h':(0 < s.token↔s.is=2):=by simpa using h
    have e:a2g s=decide (s.is=3):=by
      rw [hS]
      have:s.result.length≤16:=by omega
      by_cases c3:s.is=3
      · rw [decide_eq_true c3]; exact decide_eq_true ⟨by omega,by omega,h',this,.inr c3⟩
      · rw [decide_eq_false c3]; exact decide_eq_false (fun hc => hc.2.2.2.2.elim h3 c3)
    (refine a0f rfl ?_ ?_<;>simp [pack,lo,loL,V.closed,a0b,a0a,e])
  · have h':(0 < s.token↔s.is=2):=by simpa using h
    (refine a0f rfl ?_ ?_<;>simp [pack,lo,loL,V.closed,a0b,a0a,hS.trans (decide_eq_true ⟨by omega,by omega,h',by omega,.inl h3⟩)])
  · (refine a0f rfl ?_ ?_<;>simp [pack,lo,loL,V.closed,a0b,a0a,hS.trans (decide_eq_false (by omega))])
theorem c2f (s:Stt) (hs:s.result.length≤4611686018427387904):PCall Tryz.prog 179 [sttV s] (.bool (a2g s)):=by
  refine en179 (by simp) (by simp [a0b,V.closed,a0e]) ?_
  have no:a3z s=false→a2g s=false:=fun h => by simp [a2g,h]
  simp (maxSteps:=1000000) (disch:=omega) only [rg,gD,simprocAttr,c179,sttV]
  by_cases c1:s.is < 0
  · simp (maxSteps:=1000000) (disch:=omega) only [rg,gD,simprocAttr,c1]
    (refine a0f rfl ?_ ?_<;>simp [pack,lo,loL,V.closed,a0b,a0a,no (by simp [a3z]; omega)])
  by_cases c2:5 < s.is
  · simp (maxSteps:=1000000) (disch:=omega) only [rg,gD,simprocAttr,c1,c2]
    (refine a0f rfl ?_ ?_<;>simp [pack,lo,loL,V.closed,a0b,a0a,no (by simp [a3z]; omega)])
  by_cases c3:s.tried < 0
  · simp (maxSteps:=1000000) (disch:=omega) only [rg,gD,simprocAttr,c1,c2,c3]
    (refine a0f rfl ?_ ?_<;>simp [pack,lo,loL,V.closed,a0b,a0a,no (by simp [a3z]; omega)])
  by_cases c4:8 < s.tried
  · simp (maxSteps:=1000000) (disch:=omega) only [rg,gD,simprocAttr,c1,c2,c3,c4]
    (refine a0f rfl ?_ ?_<;>simp [pack,lo,loL,V.closed,a0b,a0a,no (by simp [a3z]; omega)])
  by_cases c5:s.due < 0
  · simp (maxSteps:=1000000) (disch:=omega) only [rg,gD,simprocAttr,c1,c2,c3,c4,c5]
    (refine a0f rfl ?_ ?_<;>simp [pack,lo,loL,V.closed,a0b,a0a,no (by simp [a3z]; omega)])
  by_cases c6:1099511627776 < s.due
  · simp (maxSteps:=1000000) (disch:=omega) only [rg,gD,simprocAttr,c1,c2,c3,c4,c5,c6]
    (refine a0f rfl ?_ ?_<;>simp [pack,lo,loL,V.closed,a0b,a0a,no (by simp [a3z]; omega)])
  have yes:a3z s=true:=by simp [a3z]; omega
  have hS:a2g s=decide (0≤s.token∧s.token≤1099511627776∧(0 < s.token↔s.is=2)∧s.result.length≤16∧(s.result=[]∨s.is=3)):=by rw [a2g,yes,Bool.true_and]
  by_cases d2:1099511627776 < s.token
  · simp (maxSteps:=1000000) (disch:=omega) only [rg,gD,simprocAttr,c1,c2,c3,c4,c5,c6,d2]
    (refine a0f rfl ?_ ?_<;>simp [pack,lo,loL,V.closed,a0b,a0a,hS.trans (decide_eq_false (by omega))])
  by_cases d3:16 < s.result.length
  · simp (maxSteps:=1000000) (disch:=omega) only [rg,gD,simprocAttr,c1,c2,c3,c4,c5,c6,d2,show (16:Int) < s.result.length by omega]
    (refine a0f rfl ?_ ?_<;>simp [pack,lo,loL,V.closed,a0b,a0a,hS.trans (decide_eq_false (by omega))])
  by_cases d4:s.is=2
  · by_cases d5:s.token < 1
    · simp (maxSteps:=1000000) (disch:=omega) only [rg,gD,simprocAttr,c1,c2,c3,c4,c5,c6,d2,show ¬ (16:Int) < s.result.length by omega,d4,d5]
      (refine a0f rfl ?_ ?_<;>simp [pack,lo,loL,V.closed,a0b,a0a,hS.trans (decide_eq_false (by omega))])
    · simp (maxSteps:=1000000) (disch:=omega) only [rg,gD,simprocAttr,c1,c2,c3,c4,c5,c6,d2,show ¬ (16:Int) < s.result.length by omega,d4,d5]
      have e:a2g s=decide (s.result=[]):=by
        rw [hS]
        by_cases h3:s.result=[]
        · rw [decide_eq_true h3]; exact decide_eq_true ⟨by omega,by omega,by omega,by omega,.inl h3⟩
        · rw [decide_eq_false h3]; exact decide_eq_false (fun hc => hc.2.2.2.2.elim h3 (by omega))
      (refine a0f rfl ?_ ?_<;>simp [pack,lo,loL,V.closed,a0b,a0a,e])
  · by_cases d5:s.token=0
    · simp (maxSteps:=1000000) (disch:=omega) only [rg,gD,simprocAttr,c1,c2,c3,c4,c5,c6,d2,show ¬ (16:Int) < s.result.length by omega,d4,d5]
      refine ⟨fun h => ?_,fun h => ?_⟩
      · have e:a2g s=decide (s.result=[]):=by
          rw [hS]
          by_cases h3:s.result=[]
          · rw [decide_eq_true h3]; exact decide_eq_true ⟨by omega,by omega,by omega,by omega,.inl h3⟩
          · rw [decide_eq_false h3]; exact decide_eq_false (fun hc => hc.2.2.2.2.elim h3 h)
        (refine a0f rfl ?_ ?_<;>simp [pack,lo,loL,V.closed,a0b,a0a,e])
      · (refine a0f rfl ?_ ?_<;>simp [pack,lo,loL,V.closed,a0b,a0a,hS.trans (decide_eq_true ⟨by omega,by omega,by omega,by omega,.inr h⟩)])
    · simp (maxSteps:=1000000) (disch:=omega) only [rg,gD,simprocAttr,c1,c2,c3,c4,c5,c6,d2,show ¬ (16:Int) < s.result.length by omega,d4,d5]
      (refine a0f rfl ?_ ?_<;>simp [pack,lo,loL,V.closed,a0b,a0a,hS.trans (decide_eq_false (by omega))])
abbrev MT:Int:=1099511627776
abbrev MW:Int:=1048576
def a7x (w t:Int):Int:=if w < 1∨t < 1 then 0 else min (w*2 ^ (t - 1).toNat) MW
def a7z (p:Int):Int:=min (max p 0) MT
def a0r (l:List Int):Int:=l.foldl (fun s p => min (s+a7z p) MT) 0
theorem b0k (l:List Int):0≤a0r l∧a0r l≤MT:=by
  have:∀ (l:List Int) (s:Int),0≤s∧s≤MT→0≤l.foldl (fun s p => min (s+a7z p) MT) s∧l.foldl (fun s p => min (s+a7z p) MT) s≤MT:=by
    intro l
    induction l with
    | nil => intro s h; exact h
    | cons a l ih => intro s h; exact ih _ (by simp only [a7z,MT] at *; omega)
  exact this l 0 (by simp [MT])
def zS:Stt:=⟨0,0,0,0,[]⟩
def a2e (t:Task) (s:Stt):Prop:=s.tried≤t.tries∧((s.is=0∧s.tried=0∧s.due=0)∨(s.is=1∧s.tried < t.tries)∨(s.is=2∧1≤s.tried)∨(s.is=3∧1≤s.tried∧s.due=0)∨(s.is=4∧s.tried=t.tries∧s.due=0)∨(s.is=5∧s.due=0))
instance (t:Task) (s:Stt):Decidable (a2e t s):=by unfold a2e; infer_instance
def a1l (t:Task) (s:Stt):Bool:=a2g s && decide (a2e t s)
def a2r (s:Stt):Stt:=if s.is=0 then { s with is:=1 } else s
def a1z (t:Task) (s:Stt) (now token:Int):Stt×Int :=
  if token < 1∨MT < token then (zS,1) else if s.is≠1∨a0r [now] < s.due then (zS,192) else (⟨2,s.tried+1,a0r [now,t.lease],token,s.result⟩,0)
def a2y (t:Task) (s:Stt) (now:Int):Stt×Int:=if s.is≠2 then (zS,191) else ({ s with due:=a0r [now,t.lease] },0)
def a2o (s:Stt) (r:Str):Stt×Int:=if s.is≠2 then (zS,191) else if 16 < r.length then (zS,1) else (⟨3,s.tried,0,0,r⟩,0)
def a2c (t:Task) (s:Stt) (now:Int):Stt×Int :=
  if s.is≠2 then (zS,191) else if t.tries≤s.tried then (⟨4,s.tried,0,0,s.result⟩,0) else (⟨1,s.tried,a0r [now,a7x t.wait s.tried],0,s.result⟩,0)
def a1b (t:Task) (s:Stt) (now:Int):Stt:=if s.is≠2∨a0r [now] < s.due then s else (a2c t s s.due).1
def a1o (s:Stt):Stt:=if s.is=0∨s.is=1∨s.is=2 then { s with is:=5,due:=0,token:=0 } else s
def seV (p:Stt×Int):V:=.tup [sttV p.1,.int .i64 p.2]
def b0m:Int→List Int→Int→Bool
  | _,[],_ => true
  | last,x::xs,n => !decide (x≤last) && (!decide (n≤x) && b0m x xs n)
def a2j (t:Task):Bool:=decide (1≤t.tries∧t.tries≤8∧0≤t.wait∧t.wait≤1048576∧1≤t.lease∧t.lease≤1048576)
def a1d (t:Task) (n:Int):Bool:=b0m (-1) t.needs n && a2j t
theorem a2m (l:List Int):(vI l).length=l.length:=a0k
theorem a3b {l:List Int} {i:Nat} (h:i < l.length):(vI l)[i]?=some (.int .i64 l[i]):=a0m h
theorem d1d (l:List Bool):(vB l).length=l.length:=a0k
theorem b4a {l:List Bool} {i:Nat} (h:i < l.length):(vB l)[i]?=some (.bool l[i]):=a0m h
theorem c9l (t:Task) (n:Int) (hl:t.needs.length≤4611686018427387904):PCall Tryz.prog 116 [a0q t,.int .i64 n] (.bool (a1d t n)):=by
  refine en116 (by simp) (by simp [a0b,V.closed,a0u]) ?_
  simp (maxSteps:=1000000) (disch:=omega) only [rg,gD,simprocAttr,c116,a0q,a2m]
  refine x_it t.needs.length (fun i σ H => H.m 0=some (.arr 4 [.agg [.fsl .loose 1 (vI t.needs),.int .i64 t.tries,.int .i64 t.wait,.int .i64 t.lease]])∧∃ last,b0m (-1) t.needs n=b0m last (t.needs.drop i) n∧σ=[(1,.int .i64 n),(2,.ptr 0 0 0),(5,.int .i64 last),(9,.fsl .loose 1 (vI t.needs)),(10,.int .i64 t.needs.length),(11,.int .i64 i)]) ⟨by simp [upd],-1,by simp,rfl⟩ ?_
  rintro T i σ ⟨q,m⟩ hi ⟨e0,last,hr,rfl⟩ hN hX hR
  simp only at e0
  simp (maxSteps:=1000000) (disch:=omega) only [rg,gD,simprocAttr]
  refine ⟨fun h => ?_,fun h => ?_⟩
  · have i1:i < t.needs.length:=by omega
    have hd:t.needs.drop i=t.needs[i]::t.needs.drop (i+1):=List.drop_eq_getElem_cons i1
    rw [hd,b0m] at hr
    simp (maxSteps:=1000000) (disch:=omega) only [rg,gD,simprocAttr,a3b]
    by_cases c1:t.needs[i]≤last
    · simp (maxSteps:=1000000) (disch:=omega) only [rg,gD,simprocAttr,c1]
      refine hR _ _ ?_
      simp (maxSteps:=1000000) (disch:=omega) only [rg,gD,simprocAttr]
      (refine a0f rfl ?_ ?_<;>simp [pack,lo,loL,V.closed,a0b,a0a,a1d,hr,c1])
    · by_cases c2:n≤t.needs[i]
      · simp (maxSteps:=1000000) (disch:=omega) only [rg,gD,simprocAttr,c1,c2]
        refine hR _ _ ?_
        simp (maxSteps:=1000000) (disch:=omega) only [rg,gD,simprocAttr]
        (refine a0f rfl ?_ ?_<;>simp [pack,lo,loL,V.closed,a0b,a0a,a1d,hr,c1,c2])
      · simp (maxSteps:=1000000) (disch:=omega) only [rg,gD,simprocAttr,c1,c2]
        exact hN _ _ i1 ⟨e0,t.needs[i],by rw [hr]; simp [c1,c2],rfl⟩
  · obtain rfl:i=t.needs.length:=by omega
    rw [List.drop_length,b0m] at hr
    refine hX _ _ _ ?_
    simp (maxSteps:=1000000) (disch:=omega) only [rg,gD,simprocAttr]
    refine a0s ?_
    by_cases c1:1≤t.tries
    · by_cases c2:t.tries≤8
      · by_cases c3:0≤t.wait
        · by_cases c4:t.wait≤1048576
          · by_cases c5:1≤t.lease
            · by_cases c6:t.lease≤1048576
              · simp (maxSteps:=1000000) (disch:=omega) only [rg,gD,simprocAttr,e0,c1,c2,c3,c4,c5,c6]
                (refine a0f rfl ?_ ?_<;>simp [pack,lo,loL,V.closed,a0b,a0a,a1d,a2j,hr,c1,c2,c3,c4,c5,c6])
              · simp (maxSteps:=1000000) (disch:=omega) only [rg,gD,simprocAttr,e0,c1,c2,c3,c4,c5,c6]
                (refine a0f rfl ?_ ?_<;>simp [pack,lo,loL,V.closed,a0b,a0a,a1d,a2j,hr,c6])
            · simp (maxSteps:=1000000) (disch:=omega) only [rg,gD,simprocAttr,e0,c1,c2,c3,c4,c5]
              (refine a0f rfl ?_ ?_<;>simp [pack,lo,loL,V.closed,a0b,a0a,a1d,a2j,hr,c5])
          · simp (maxSteps:=1000000) (disch:=omega) only [rg,gD,simprocAttr,e0,c1,c2,c3,c4]
            (refine a0f rfl ?_ ?_<;>simp [pack,lo,loL,V.closed,a0b,a0a,a1d,a2j,hr,c4])
        · simp (maxSteps:=1000000) (disch:=omega) only [rg,gD,simprocAttr,e0,c1,c2,c3]
          (refine a0f rfl ?_ ?_<;>simp [pack,lo,loL,V.closed,a0b,a0a,a1d,a2j,hr,c3])
      · simp (maxSteps:=1000000) (disch:=omega) only [rg,gD,simprocAttr,e0,c1,c2]
        (refine a0f rfl ?_ ?_<;>simp [pack,lo,loL,V.closed,a0b,a0a,a1d,a2j,hr,c2])
    · simp (maxSteps:=1000000) (disch:=omega) only [rg,gD,simprocAttr,e0,c1]
      (refine a0f rfl ?_ ?_<;>simp [pack,lo,loL,V.closed,a0b,a0a,a1d,a2j,hr,c1])
def a7w (t:Task) (done:List Bool) (i:Nat):Bool:=!done.getD i false && t.needs.all fun x => done.getD x.toNat false
def a3s (ts:List Task) (done:List Bool) (k:Nat):List Int:=(((ts.take k).zipIdx).filter fun p => a7w p.1 done p.2).map fun p => (p.2:Int)
theorem c2r {ts:List Task} {done:List Bool} {k:Nat} (h:k < ts.length):a3s ts done (k+1)=if a7w ts[k] done k=true then a3s ts done k++[(k:Int)] else a3s ts done k:=by
  rw [a3s,List.take_succ_eq_append_getElem h,List.zipIdx_append,List.filter_append,List.map_append]
  have:min k ts.length=k:=by omega
  simp only [List.length_take,this,List.zipIdx_cons,List.zipIdx_nil,List.filter_cons,List.filter_nil,Nat.zero_add]
  split<;>simp [a3s]
theorem c3m (ts:List Task) (done:List Bool) (k:Nat):(a3s ts done k).length≤k:=by
  simp only [a3s,List.length_map]
  refine Nat.le_trans (List.length_filter_le _ _) ?_
  simp; omega
theorem b9m (H:Hp) (b d:Nat) (done:List Bool) (i:Int) (hb:b < H.n) (hd:d < H.n) (h1:H.m b=some (.arr 1 [.sl d 0 done.length])) (h2:H.m d=some (.arr 1 (vB done))) (hi:0≤i∧i < done.length) :
    ACall Tryz.prog 222 [.int .i64 i,.ptr b 0 0] H [b,d] (.bool (!done.getD i.toNat false)) [] 0:=by
  have hne:b≠d:=by rintro rfl; rw [h1] at h2; cases done with
    | nil => simp [vB,mv] at h2
    | cons x l => simp [vB,mv] at h2
  refine ena222 (by simp) (by simp [lowL,V.low,hb]) (fun id hid => ?_) (by simp) ?_
  · simp at hid
    rcases hid with rfl | rfl
    · exact ⟨hb,fun o ho => by rw [h1] at ho; simp at ho; subst ho; simp [Ob.low,lowL,V.low,hd]⟩
    · exact ⟨hd,fun o ho => by rw [h2] at ho; simp at ho; subst ho; exact a1g _ a5t⟩
  have q1:only [b,d] H.m b=some (.arr 1 [.sl d 0 done.length]):=by simp [only,h1]
  have q2:only [b,d] H.m d=some (.arr 1 (vB done)):=by simp [only,h2]
  have hlt:i.toNat < done.length:=by omega
  simp (maxSteps:=1000000) (disch:=omega) only [rg,gD,simprocAttr,c222,q1,q2,b4a]
  refine ⟨by omega,a1v (l:=[.bool (!done[i.toNat])]) rfl (.inl (by simp [pack,List.getD_eq_getElem?_getD,hlt])) (by simp) (fun id => .inr rfl)⟩
theorem c0d {st:St} {rows:List Int} {fs cs:List V} {g:Nat} {q:Int→Bool} {H:Hp} {fp:List Nat} {kk:Nat} (hn:rows.length≤1000000) (hl:lowL H.n fs=true) (hl':lowL H.n cs=true) (hfp:FpOk H fp)
    (hg:∀ x∈rows,∀ H':Hp,H.n≤H'.n→(∀ id∈fp,H'.m id=H.m id)→ACall Tryz.prog g (fs++[.int .i64 x]++cs) H' fp (.bool (q x)) [] kk) :
    ACall Tryz.prog 175 [.fsl st 1 (vI rows),.fn g fs cs] H fp (.bool (rows.any q)) [] (rows.length*kk):=by
  have:=b8g (f:=175) (f2:=223) (sz:=1) (k:=none) (st:=st) (rows:=vI rows) (fs:=fs) (cs:=cs) (g:=g) (q:=fun v => match v with | .int _ n => q n | _ => false) (H:=H) (fp:=fp) (kk:=kk)
    ena175 ena223 (by decide) (by decide) a2s (fun e he => by obtain ⟨a,_,rfl⟩:=a9d he; rfl) (by rw [a2m]; omega) hl hl' hfp
    (fun e he H' h1 h2 => by obtain ⟨a,ha,rfl⟩:=a9d he; exact hg a ha H' h1 h2)
  rw [a2m] at this
  have e:(vI rows).any (fun v => match v with | .int _ n => q n | _ => false)=rows.any q:=by simp [vI,mv,List.any_map]; rfl
  rwa [e] at this
def inR (ts:List Task) (n:Nat):Prop:=∀ t∈ts,∀ x∈t.needs,0≤x∧x < n
theorem c9v (st:St) (ts:List Task) (done:List Bool) (d:Nat) (H:Hp) (hn:ts.length=done.length) (hl:ts.length≤10) (hnl:∀ t∈ts,t.needs.length≤1000000) (hin:inR ts done.length) (hd:d < H.n) (hm:H.m d=some (.arr 1 (vB done))) :
    ACall Tryz.prog 173 [.fsl st 4 (mv a0q ts),.sl d 0 done.length] H [d] (.fsl .loose 1 (vI (a3s ts done ts.length))) [] 100:=by
  refine ena173 (by simp) (by simp [lowL,V.low,hd,a1g _ (a0a a0u)]) (fun id hid => ?_) (by simp) ?_
  · simp at hid; subst hid
    exact ⟨hd,fun o ho => by rw [hm] at ho; simp at ho; subst ho; exact a1g _ a5t⟩
  have q2:only [d] H.m d=some (.arr 1 (vB done)):=by simp [only,hm]
  have hdn:d≠H.n:=by omega
  simp (maxSteps:=1000000) (disch:=omega) only [rg,gD,simprocAttr,c173]
  refine x_it ts.length (fun i σ H' => H'.n≤H.n+1+2*i∧H.n+1≤H'.n∧H'.m H.n=some (.arr 1 [.sl d 0 done.length])∧H'.m d=some (.arr 1 (vB done))∧∃ v,σ=[(5,.fn 222 [] [.ptr H.n 0 0]),(6,v),(10,.fsl st 4 (mv a0q ts)),(11,.int .i64 ts.length),(12,.int .i64 i)] ∧
    ((v=.fsl .nil 1 []∧a3s ts done i=[])∨∃ id,H.n < id∧id < H'.n∧v=.sl id 0 (a3s ts done i).length∧H'.m id=some (.arr 1 (vI (a3s ts done i))))) ?_ ?_
  · exact ⟨by simp,by simp,by simp [upd],by simp only [a0c hdn]; exact q2,_,rfl,.inl ⟨rfl,rfl⟩⟩
  rintro T i σ ⟨n',m⟩ hi ⟨hb1,hb2,e0,e1,v,rfl,hv⟩ hN hX hR
  simp only at hb1 hb2 e0 e1 hv
  simp (maxSteps:=1000000) (disch:=omega) only [rg,gD,simprocAttr]
  refine ⟨fun h => ?_,fun h => ?_⟩
  · have i1:i < ts.length:=by omega
    have hns:=c2r (done:=done) i1
    have ht:=hin ts[i] (List.getElem_mem i1)
    have hl1:=hnl ts[i] (List.getElem_mem i1)
    have hfl:=c3m ts done i
    have hno:∀ b:Bool,a7w ts[i] done i=false→a3s ts done (i+1)=a3s ts done i:=fun _ hb => by rw [hns,if_neg (by rw [hb]; simp)]
    have hne1:H.n≠n':=by omega
    have hne2:d≠n':=by omega
    simp (maxSteps:=1000000) (disch:=omega) only [rg,gD,simprocAttr,a0q]
    refine ⟨_,_,_,_,b9m _ H.n d done i (by simp only []; omega) (by simp only []; omega) (by simp (disch:=omega) only [a0d,a0c,wo_0,wo_1,wo_2,e0]) (by simp (disch:=omega) only [a0d,a0c,wo_0,wo_1,wo_2,e1]) (by omega), ?_⟩
    cases hdi:done.getD i false with
    | true =>
      have hfb:a7w ts[i] done i=false:=by simp only [a7w,hdi]; rfl
      simp (maxSteps:=1000000) (disch:=omega) only [rg,gD,simprocAttr,hdi]
      refine hN _ _ i1 ⟨by simp only []; omega,by simp only []; omega,(by simp (disch:=omega) only [a0d,a0c,wo_0,wo_1,wo_2,e0]),(by simp (disch:=omega) only [a0d,a0c,wo_0,wo_1,wo_2,e1]),_,rfl, ?_⟩
      rw [hno true hfb]
      rcases hv with ⟨rfl,he⟩ | ⟨id,h1,h2,rfl,h3⟩
      · exact .inl ⟨rfl,he⟩
      · exact .inr ⟨id,h1,by simp only []; omega,rfl,(by simp (disch:=omega) only [a0d,a0c,wo_0,wo_1,wo_2,h3])⟩
    | false =>
      simp (maxSteps:=1000000) (disch:=omega) only [rg,gD,simprocAttr,hdi]
      have hall:(ts[i].needs.any fun x => !done.getD x.toNat false)=!(ts[i].needs.all fun x => done.getD x.toNat false):=by rw [List.not_all_eq_any_not]
      refine ⟨_,_,_,_,c0d (rows:=ts[i].needs) (q:=fun x => !done.getD x.toNat false) (fp:=[H.n,d]) (kk:=0) (by omega) rfl (by simp [lowL,V.low]; omega) (fun id hid => ?_) (fun x hx H' h1 h2 => ?_), ?_⟩
      · simp at hid
        rcases hid with rfl | rfl
        · exact ⟨by simp only []; omega,fun o ho => by simp only [a0c hne1,e0] at ho; simp at ho; subst ho; simp [Ob.low,lowL,V.low]; omega⟩
        · exact ⟨by simp only []; omega,fun o ho => by simp only [a0c hne2,e1] at ho; simp at ho; subst ho; exact a1g _ a5t⟩
      · exact b9m H' H.n d done x (by simp only [] at h1; omega) (by simp only [] at h1; omega) (by rw [h2 _ (by simp)]; exact (by simp (disch:=omega) only [a0d,a0c,wo_0,wo_1,wo_2,e0])) (by rw [h2 _ (by simp)]; exact (by simp (disch:=omega) only [a0d,a0c,wo_0,wo_1,wo_2,e1])) (ht x hx)
      · rw [hall]
        cases ha:ts[i].needs.all fun x => done.getD x.toNat false with
        | false =>
          have hfb:a7w ts[i] done i=false:=by simp only [a7w,ha]; simp
          simp (maxSteps:=1000000) (disch:=omega) only [rg,gD,simprocAttr]
          refine hN _ _ i1 ⟨by simp only []; omega,by simp only []; omega,(by simp (disch:=omega) only [a0d,a0c,wo_0,wo_1,wo_2,e0]),(by simp (disch:=omega) only [a0d,a0c,wo_0,wo_1,wo_2,e1]),_,rfl, ?_⟩
          rw [hno true hfb]
          rcases hv with ⟨rfl,he⟩ | ⟨id,h1,h2,rfl,h3⟩
          · exact .inl ⟨rfl,he⟩
          · exact .inr ⟨id,h1,by simp only []; omega,rfl,(by simp (disch:=omega) only [a0d,a0c,wo_0,wo_1,wo_2,h3])⟩
        | true =>
          have hfb:a7w ts[i] done i=true:=by simp only [a7w,ha,hdi]; rfl
          have hs2:vI (a3s ts done i)++[.int .i64 i]=vI (a3s ts done (i+1)):=by rw [hns,if_pos hfb]; exact b5m
          have hl3:(a3s ts done (i+1)).length=(a3s ts done i).length+1:=by rw [hns,if_pos hfb]; simp
          have ht3:List.take (a3s ts done i).length (vI (a3s ts done i))=vI (a3s ts done i):=List.take_of_length_le (by rw [a2m]; omega)
          rcases hv with ⟨rfl,he⟩ | ⟨id,h1,h2,rfl,h3⟩
          · simp (maxSteps:=1000000) (disch:=omega) only [rg,gD,simprocAttr,appO,Nat.mul_zero]
            refine hN _ _ i1 ⟨by simp only []; omega,by simp only []; omega,(by simp (disch:=omega) only [a0d,a0c,wo_0,wo_1,wo_2,e0]),(by simp (disch:=omega) only [a0d,a0c,wo_0,wo_1,wo_2,e1]),_,rfl,.inr ⟨n'+1,by omega,by simp,by rw [hl3,he]; rfl,by rw [← hs2,he]; simp [upd,vI,mv]⟩⟩
          · simp (maxSteps:=1000000) (disch:=omega) only [rg,gD,simprocAttr,appO,h3,hs2,ht3,a2m,Nat.mul_zero]
            exact ⟨by omega,hN _ _ i1 ⟨by simp only []; omega,by simp only []; omega,(by simp (disch:=omega) only [a0d,a0c,wo_0,wo_1,wo_2,e0]),(by simp (disch:=omega) only [a0d,a0c,wo_0,wo_1,wo_2,e1]),_,rfl,.inr ⟨n'+1,by omega,by simp,by rw [hl3],(by simp (disch:=omega) only [a0d,a0c,wo_0,wo_1,wo_2])⟩⟩⟩
  · obtain rfl:i=ts.length:=by omega
    refine hX _ _ _ ?_
    simp (maxSteps:=1000000) (disch:=omega) only [rg,gD,simprocAttr]
    rcases hv with ⟨rfl,he⟩ | ⟨id,h1,h2,rfl,h3⟩
    · refine a0s ?_
      simp (maxSteps:=1000000) (disch:=omega) only [rg,gD,simprocAttr]
      exact a1v (l:=[.fsl .nil 1 []]) rfl (.inr (.inl (by rw [he]; rfl))) (by simp only []; omega) (fun j => by
        by_cases hj:j=d
        · subst hj; right; simp only [appd,q2,e1]
        · left; simp [appd,only,hj])
    · refine c8m [id] ?_; simp only [vr,b0l]; rw [b7z (id:=id) (sz:=1) (l:=vI (a3s ts done ts.length)) (by first | assumption | (simp [upd]; done) | (simp [upd, *]; done)) (by simp) (by first | rfl | (simp [a0k,a2m,a2s]<;>omega)) (by simp [a0a,V.closed,a2m,a2s])]
      simp (maxSteps:=1000000) (disch:=omega) only [rg,gD,simprocAttr]
      exact a1v (l:=[.fsl .loose 1 (vI (a3s ts done ts.length))]) rfl (.inl rfl) (by simp only []; omega) (fun j => by
        by_cases hj:j=d
        · subst hj; right
          simp only [appd,q2]
          rw [wo_1 (by omega)]; exact e1.symm
        · left; simp [appd,only,hj])
def b4o (ts:List Task):Nat→List Bool→List Int→List Int
  | 0,_,out => out
  | k+1,done,out => match a3s ts done ts.length with | [] => out | i::_ => b4o ts k (done.set i.toNat true) (out++[i])
theorem b2f {ts:List Task} {done:List Bool} {x:Int} (h:x∈a3s ts done ts.length):∃ i:Nat,x=i∧∃ hi:i < ts.length,a7w ts[i] done i=true:=by
  simp only [a3s,List.mem_map,List.mem_filter,List.take_length] at h
  obtain ⟨⟨t,i⟩,⟨h1,h2⟩,rfl⟩:=h
  obtain ⟨_,h3,h4⟩:=List.mem_zipIdx h1
  simp at h3 h4
  exact ⟨i,rfl,h3,by rw [← h4]; exact h2⟩
theorem c1z {ts:List Task} {done:List Bool} (hl:ts.length=done.length) (h:done.count true=done.length):a3s ts done ts.length=[]:=by
  cases hf:a3s ts done ts.length with
  | nil => rfl
  | cons x l =>
    obtain ⟨i,rfl,hi,hb⟩:=b2f (x:=x) (by rw [hf]; simp)
    have hd:done.getD i false=true:=by
      have:=(List.count_eq_length.1 h) done[i] (List.getElem_mem (by omega))
      rw [List.getD_eq_getElem?_getD]; simp [show i < done.length by omega,← this]
    rw [a7w,hd] at hb; simp at hb
theorem count_set {done:List Bool} {i:Nat} (hi:i < done.length) (h:done.getD i false=false):(done.set i true).count true=done.count true+1:=by
  rw [List.count_set hi]
  have:done[i]=false:=by simpa [List.getD_eq_getElem?_getD,hi] using h
  simp [this]
def b0f (ts:List Task):List Int:=b4o ts (ts.length+1) (List.replicate ts.length false) []
theorem c3y (st:St) (ts:List Task) (hl:ts.length≤10) (hnl:∀ t∈ts,t.needs.length≤1000000) (hin:inR ts ts.length):PCall Tryz.prog 117 [.fsl st 4 (mv a0q ts)] (.fsl .loose 1 (vI (b0f ts))):=by
  refine en117 (by simp) (by simp [a0b,V.closed,a0a a0u]) ?_
  simp (maxSteps:=1000000) (disch:=omega) only [rg,gD,simprocAttr,c117]
  refine ⟨by omega, ?_⟩
  refine x_it ts.length (fun i σ H => 1≤H.n∧∃ done out v,done.length=ts.length∧done.count true=i∧out.length=i∧b0f ts=b4o ts (ts.length+1 - i) done out∧H.m 0=some (.arr 1 (vB done))∧σ=[(0,.fsl st 4 (mv a0q ts)),(3,.sl 0 0 ts.length),(4,v)] ∧
    ((v=.fsl .nil 1 []∧out=[])∨∃ id,1≤id∧id < H.n∧v=.sl id 0 out.length∧H.m id=some (.arr 1 (vI out)))) ?_ ?_
  · exact ⟨Nat.le_refl 1,List.replicate ts.length false,[],_,by simp,by simp [List.count_replicate],rfl,rfl,by simp [upd,vB,mv],rfl,.inl ⟨rfl,rfl⟩⟩
  rintro T i σ ⟨q,m⟩ hi ⟨hq,done,out,v,h1,h2,h3,h4,e0,rfl,hv⟩ hN hX hR
  simp only at hq e0 hv
  have fr:=c9v st ts done 0 ⟨q,m⟩ (by omega) hl hnl (by rw [h1]; exact hin) hq e0
  rw [h1] at fr
  have h5:ts.length+1 - i=(ts.length - i)+1:=by omega
  rw [h5,b4o] at h4
  simp (maxSteps:=1000000) (disch:=omega) only [rg,gD,simprocAttr]
  refine ⟨_,_,_,_,fr, ?_⟩
  cases hf:a3s ts done ts.length with
  | nil =>
    rw [hf] at h4; simp only at h4
    simp (maxSteps:=1000000) (disch:=omega) only [rg,gD,simprocAttr,a2m,Int.natCast_zero]
    refine hR _ _ ?_
    simp (maxSteps:=1000000) (disch:=omega) only [rg,gD,simprocAttr]
    rcases hv with ⟨rfl,rfl⟩ | ⟨id,g1,g2,rfl,g3⟩
    · (refine a0f rfl ?_ ?_<;>simp [pack,lo,loL,V.closed,a0b,a0a,h4,vI,mv])
    · refine b2t (v:=.fsl .loose 1 (vI out)) rfl (a4p g3 a2s (a2m out).symm) (by simp [lo,d5l,h4])
  | cons x l =>
    obtain ⟨k,hk,hk1,hk2⟩:=b2f (x:=x) (by rw [hf]; simp)
    subst hk
    rw [hf] at h4; simp only at h4
    simp only [a7w,Bool.and_eq_true,Bool.not_eq_true'] at hk2
    have hdk:k < done.length:=by omega
    have hc:=count_set hdk hk2.1
    have hlt:i < ts.length:=by
      rcases Nat.lt_or_ge i ts.length with h | h
      · exact h
      · have:=c1z (ts:=ts) (by omega) (show done.count true=done.length by omega)
        rw [this] at hf; cases hf
    have hpos:¬ ((l.length+1:Nat):Int)=0:=by omega
    have hg0:(vI ((k:Int)::l))[0]?=some (.int .i64 k):=rfl
    simp (maxSteps:=1000000) (disch:=omega) only [rg,gD,simprocAttr,a2m,hpos,hg0,show (0:Int).toNat=0 from rfl,e0,b4a hdk,h1]
    refine ⟨by omega, ?_⟩
    have hset:(vB done).set k (.bool true)=vB (done.set k true):=a9k
    have e6:ts.length+1 - (i+1)=ts.length - i:=by omega
    have hl3:(out++[(k:Int)]).length=out.length+1:=by simp
    have ho:vI out++[.int .i64 k]=vI (out++[(k:Int)]):=b5m
    rcases hv with ⟨rfl,rfl⟩ | ⟨id,g1,g2,rfl,g3⟩
    · simp (maxSteps:=1000000) (disch:=omega) only [rg,gD,simprocAttr,appO,hset]
      exact hN _ _ hlt ⟨by simp only []; omega,done.set k true,[]++[(k:Int)],_,by simpa using h1,by rw [hc,h2],by simp at h3 ⊢; omega,by rw [e6]; simpa using h4,(by simp (disch:=omega) only [a0d,a0c,wo_0,wo_1,wo_2]),rfl,.inr ⟨q+100,by omega,by simp,rfl,by rw [← ho]; simp [upd,vI,mv]⟩⟩
    · have ht3:List.take out.length (vI out)=vI out:=List.take_of_length_le (by rw [a2m]; omega)
      have hid:id≠0:=by omega
      simp (maxSteps:=1000000) (disch:=omega) only [rg,gD,simprocAttr,appO,hset,g3,a2m,ht3,ho]
      exact ⟨by omega,hN _ _ hlt ⟨by simp only []; omega,done.set k true,out++[(k:Int)],_,by simpa using h1,by rw [hc,h2],by rw [hl3,h3],by rw [e6]; simpa using h4,(by simp (disch:=omega) only [a0d,a0c,wo_0,wo_1,wo_2]),rfl,.inr ⟨q+100,by omega,by simp,by rw [hl3],(by simp (disch:=omega) only [a0d,a0c,wo_0,wo_1,wo_2])⟩⟩⟩
def a0t (d:Dag):Int :=
  if 10 < d.tasks.length then 2 else if d.tasks.length < 1∨d.name.length < 1∨16 < d.name.length∨(d.tasks.any fun t => !a1d t d.tasks.length)=true then 1 else if (b0f d.tasks).length < d.tasks.length then 160 else 0
theorem a4v:∀ {l:List Int} {last n:Int},b0m last l n=true→-1≤last→(∀ x∈l,0≤x∧x < n)∧(l.length:Int)≤max (n - 1 - last) 0
  | [],last,n,_,_ => ⟨by simp,by simp; omega⟩
  | x::xs,last,n,h,h0 => by
    simp only [b0m,Bool.and_eq_true,Bool.not_eq_true',decide_eq_false_iff_not] at h
    obtain ⟨h1,h2,h3⟩:=h
    obtain ⟨k1,k2⟩:=a4v h3 (by omega)
    refine ⟨fun y hy => ?_,by simp; omega⟩
    rcases List.mem_cons.1 hy with rfl | hy
    · omega
    · exact k1 y hy
theorem c5b (H:Hp) (b:Nat) (t:Task) (n:Int) (hb:b < H.n) (h1:H.m b=some (.arr 1 [.int .i64 n])) (hl:t.needs.length≤4611686018427387904) :
    ACall Tryz.prog 115 [a0q t,.ptr b 0 0] H [b] (.bool (!a1d t n)) [] 1:=by
  refine ena115 (by simp) (by simp [lowL,V.low,hb,V.low_closed _ (a0u t)]) (fun id hid => ?_) (by simp) ?_
  · simp at hid; subst hid
    exact ⟨hb,fun o ho => by rw [h1] at ho; simp at ho; subst ho; rfl⟩
  have q1:only [b] H.m b=some (.arr 1 [.int .i64 n]):=by simp [only,h1]
  have hne:b≠H.n:=by omega
  have k:=c9l t n hl
  unfold a0q at k ⊢
  simp (maxSteps:=1000000) (disch:=omega) only [rg,gD,simprocAttr,c115,q1]
  refine ⟨_,k, ?_⟩
  simp (maxSteps:=1000000) (disch:=omega) only [rg,gD,simprocAttr]
  refine a1v (l:=[.bool (!a1d t n)]) rfl (.inl rfl) (by simp) (fun j => ?_)
  by_cases hj:j=H.n
  · subst hj; left; simp [appd,only]; omega
  · right; simp [appd,upd,hj]
def unI:V→Int
  | .int _ n => n
  | _ => 0
theorem c4x:∀ l:List Int,(vI l).map unI=l
  | [] => rfl
  | a::l => by show a::(vI l).map unI=_; rw [c4x l]
theorem c5x {st:St} {rows:List Task} {fs cs:List V} {g:Nat} {q:Task→Bool} {H:Hp} {fp:List Nat} {kk:Nat} (hn:rows.length≤1000000) (hl:lowL H.n fs=true) (hl':lowL H.n cs=true) (hfp:FpOk H fp)
    (hg:∀ x∈rows,∀ H':Hp,H.n≤H'.n→(∀ id∈fp,H'.m id=H.m id)→ACall Tryz.prog g (fs++[a0q x]++cs) H' fp (.bool (q x)) [] kk) :
    ACall Tryz.prog 114 [.fsl st 4 (mv a0q rows),.fn g fs cs] H fp (.bool (rows.any q)) [] (rows.length*kk):=by
  let un:V→Task:=fun v => match v with | .agg [.fsl _ _ l,.int _ a,.int _ b,.int _ c] => ⟨l.map unI,a,b,c⟩ | _ => ⟨[],0,0,0⟩
  have hun:∀ t,un (a0q t)=t:=fun t => by
    simp only [un,a0q]
    rw [c4x]
  have:=b8g (f:=114) (f2:=172) (sz:=4) (k:=some 4) (st:=st) (rows:=mv a0q rows) (fs:=fs) (cs:=cs) (g:=g) (q:=fun v => q (un v)) (H:=H) (fp:=fp) (kk:=kk)
    ena114 ena172 (by decide) (by decide) (a0a a0u) (fun e he => by obtain ⟨a,_,rfl⟩:=a9d he; rfl) (by rw [a0k]; omega) hl hl' hfp
    (fun e he H' h1 h2 => by obtain ⟨a,ha,rfl⟩:=a9d he; simp only [hun]; exact hg a ha H' h1 h2)
  rw [a0k] at this
  have e:(mv a0q rows).any (fun v => q (un v))=rows.any q:=by
    rw [mv,List.any_map]; congr 1; funext t; exact congrArg q (hun t)
  rwa [e] at this
theorem a9j (d:Dag) (hd:∀ t∈d.tasks,t.needs.length≤4611686018427387904) (hn:d.tasks.length≤4611686018427387904):PCall Tryz.prog 54 [dagV d] (.int .i64 (a0t d)):=by
  refine en54 (by simp) (by simp [a0b,V.closed,a0i]) ?_
  simp (maxSteps:=1000000) (disch:=omega) only [rg,gD,simprocAttr,c54,dagV,a0j]
  by_cases c0:10 < d.tasks.length
  · simp (maxSteps:=1000000) (disch:=omega) only [rg,gD,simprocAttr,show (10:Int) < d.tasks.length by omega]
    (refine a0f rfl ?_ ?_<;>simp [pack,lo,loL,V.closed,a0b,a0a,a0t,c0])
  by_cases c1:d.tasks.length < 1
  · simp (maxSteps:=1000000) (disch:=omega) only [rg,gD,simprocAttr,show ¬ (10:Int) < d.tasks.length by omega,show (d.tasks.length:Int) < 1 by omega]
    (refine a0f rfl ?_ ?_<;>simp [pack,lo,loL,V.closed,a0b,a0a,a0t,c0,c1])
  by_cases c2:d.name.length < 1
  · simp (maxSteps:=1000000) (disch:=omega) only [rg,gD,simprocAttr,show ¬ (10:Int) < d.tasks.length by omega,show ¬ (d.tasks.length:Int) < 1 by omega,show (d.name.length:Int) < 1 by omega]
    (refine a0f rfl ?_ ?_<;>simp [pack,lo,loL,V.closed,a0b,a0a,a0t,c0,c2])
  by_cases c3:16 < d.name.length
  · simp (maxSteps:=1000000) (disch:=omega) only [rg,gD,simprocAttr,show ¬ (10:Int) < d.tasks.length by omega,show ¬ (d.tasks.length:Int) < 1 by omega,show ¬ (d.name.length:Int) < 1 by omega,show (16:Int) < d.name.length by omega]
    (refine a0f rfl ?_ ?_<;>simp [pack,lo,loL,V.closed,a0b,a0a,a0t,c0,c3])
  simp (maxSteps:=1000000) (disch:=omega) only [rg,gD,simprocAttr,show ¬ (10:Int) < d.tasks.length by omega,show ¬ (d.tasks.length:Int) < 1 by omega,show ¬ (d.name.length:Int) < 1 by omega,show ¬ (16:Int) < d.name.length by omega]
  refine ⟨_,_,_,_,c5x (rows:=d.tasks) (q:=fun t => !a1d t d.tasks.length) (fp:=[1]) (kk:=1) (by omega) rfl (by simp [lowL,V.low]) (fun id hid => ?_) (fun t ht H' h1 h2 => ?_), ?_⟩
  · simp at hid; subst hid
    exact ⟨by simp,fun o ho => by simp only [a0d] at ho; simp at ho; subst ho; rfl⟩
  · exact c5b H' 1 t _ (by simp only [] at h1; omega) (by rw [h2 1 (by simp)]; exact (by simp (disch:=omega) only [a0d,a0c,wo_0,wo_1,wo_2])) (hd t ht)
  cases ha:d.tasks.any fun t => !a1d t d.tasks.length with
  | true =>
    simp (maxSteps:=1000000) (disch:=omega) only [rg,gD,simprocAttr]
    (refine a0f rfl ?_ ?_<;>simp [pack,lo,loL,V.closed,a0b,a0a,a0t,c0,c1,c2,c3,ha])
  | false =>
    have hall:∀ t∈d.tasks,a1d t d.tasks.length=true:=fun t ht => by
      have:=List.any_eq_false.1 ha t ht; simpa using this
    have hrg:∀ t∈d.tasks,(∀ x∈t.needs,0≤x∧x < d.tasks.length)∧(t.needs.length:Int)≤max ((d.tasks.length:Int) - 1 - (-1)) 0:=fun t ht => by
      have:=hall t ht
      simp only [a1d,Bool.and_eq_true] at this
      exact a4v this.1 (by omega)
    simp (maxSteps:=1000000) (disch:=omega) only [rg,gD,simprocAttr]
    refine ⟨_,c3y .loose d.tasks (by omega) (fun t ht => by have:=(hrg t ht).2; omega) (fun t ht => (hrg t ht).1), ?_⟩
    simp (maxSteps:=1000000) (disch:=omega) only [rg,gD,simprocAttr,a2m]
    refine ⟨fun h => ?_,fun h => ?_⟩
    · (refine a0f rfl ?_ ?_<;>simp [pack,lo,loL,V.closed,a0b,a0a,a0t,c0,c1,c2,c3,ha,show (b0f d.tasks).length < d.tasks.length by omega])
    · (refine a0f rfl ?_ ?_<;>simp [pack,lo,loL,V.closed,a0b,a0a,a0t,c0,c1,c2,c3,ha,show ¬ (b0f d.tasks).length < d.tasks.length by omega])
def a4e (ts:List Task) (k:Nat):List Int:=match ts[k]? with | some t => t.needs | none => []
theorem a3x {ts:List Task} {k:Nat} (h:k < ts.length):a4e ts k=ts[k].needs:=by simp [a4e,h]
def a6o (l:List Int) (o:List Bool):List Bool:=l.foldl (fun w x => w.set x.toNat true) o
theorem a6u:∀ (l:List Int) (o:List Bool),(a6o l o).length=o.length
  | [],_ => rfl
  | x::l,o => by show (a6o l (o.set x.toNat true)).length=_; rw [a6u l]; simp
theorem b4s {l:List Int} {i:Nat} (h:i < l.length) (o:List Bool):a6o (l.take (i+1)) o=(a6o (l.take i) o).set l[i].toNat true:=by
  rw [List.take_succ_eq_append_getElem h,a6o,List.foldl_append]; rfl
def a3r (ts:List Task):Nat→List Bool→List Bool
  | 0,o => o
  | k+1,o => if (a3r ts k o).getD k false=true then a6o (a4e ts k) (a3r ts k o) else a3r ts k o
theorem a4w (ts:List Task):∀ (k:Nat) (o:List Bool),(a3r ts k o).length=o.length
  | 0,_ => rfl
  | k+1,o => by
    rw [a3r]; split
    · rw [a6u,a4w ts k]
    · exact a4w ts k o
def a3p (ts:List Task) (f:Nat):Nat→List Bool
  | 0 => a6o (a4e ts f) (List.replicate ts.length false)
  | k+1 => a3r ts ts.length (a3p ts f k)
theorem a4i (ts:List Task) (f:Nat):∀ k,(a3p ts f k).length=ts.length
  | 0 => by simp [a3p,a6u]
  | k+1 => by rw [a3p,a4w,a4i ts f k]
theorem c3a (d:Dag) (f:Nat) (hf:f < d.tasks.length) (hl:d.tasks.length≤10) (hnl:∀ t∈d.tasks,t.needs.length≤1000000) (hin:inR d.tasks d.tasks.length) :
    PCall Tryz.prog 130 [dagV d,.int .i64 f] (.fsl .loose 1 (vB (a3p d.tasks f d.tasks.length))):=by
  refine en130 (by simp) (by simp [a0b,V.closed,a0i]) ?_
  have hnf:∀ x∈d.tasks[f].needs,0≤x∧x < d.tasks.length:=hin _ (List.getElem_mem hf)
  have hnfl:=hnl _ (List.getElem_mem hf)
  have hrep:List.replicate d.tasks.length (V.bool false)=vB (List.replicate d.tasks.length false):=by simp [vB,mv]
  simp (maxSteps:=1000000) (disch:=omega) only [rg,gD,simprocAttr,c130,dagV,a0j,a0q,a2m,hrep]
  refine ⟨⟨by omega,by omega⟩, ?_⟩
  refine x_it d.tasks[f].needs.length (fun i σ H => H.n=2∧H.m 0=some (.arr 2 [dagV d])∧H.m 1=some (.arr 1 (vB (a6o (d.tasks[f].needs.take i) (List.replicate d.tasks.length false))))∧σ=[(2,.ptr 0 0 0),(5,.sl 1 0 d.tasks.length),(22,.fsl .loose 1 (vI d.tasks[f].needs)),(23,.int .i64 d.tasks[f].needs.length),(24,.int .i64 i)]) ⟨rfl,by simp [upd,dagV,a0j],by simp [upd,a6o],rfl⟩ ?_
  rintro T i σ ⟨q,m⟩ hi ⟨rfl,e0,e1,rfl⟩ hN hX hR
  simp only at e0 e1
  simp (maxSteps:=1000000) (disch:=omega) only [rg,gD,simprocAttr]
  refine ⟨fun h => ?_,fun h => ?_⟩
  · have i1:i < d.tasks[f].needs.length:=by omega
    have hx:=hnf _ (List.getElem_mem i1)
    have hlt:d.tasks[f].needs[i].toNat < (a6o (d.tasks[f].needs.take i) (List.replicate d.tasks.length false)).length:=by rw [a6u]; simp; omega
    simp (maxSteps:=1000000) (disch:=omega) only [rg,gD,simprocAttr,a3b,e1,b4a hlt]
    refine ⟨by omega,hN _ _ i1 ⟨rfl,(by simp (disch:=omega) only [a0d,a0c,wo_0,wo_1,wo_2,e0]), ?_,rfl⟩⟩
    rw [b4s i1]; simp only [a0d,vB,a9k]
  · obtain rfl:i=d.tasks[f].needs.length:=by omega
    rw [List.take_length,← a3x hf] at e1
    refine hX _ _ _ ?_
    simp (maxSteps:=1000000) (disch:=omega) only [rg,gD,simprocAttr]
    refine a0s ?_
    simp (maxSteps:=1000000) (disch:=omega) only [rg,gD,simprocAttr]
    refine x_it d.tasks.length (fun k σ H => 2≤H.n∧H.m 0=some (.arr 2 [dagV d])∧H.m 1=some (.arr 1 (vB (a3p d.tasks f k)))∧σ=[(2,.ptr 0 0 0),(5,.sl 1 0 d.tasks.length),(8,.int .i64 k)]) ⟨Nat.le_refl 2,e0,e1,rfl⟩ ?_
    clear hN hX hR
    rintro T2 k σ ⟨q,m2⟩ hk ⟨hq,f0,f1,rfl⟩ hN2 hX2 hR2
    simp only at hq f0 f1
    have f0':=f0
    unfold dagV a0j at f0
    simp (maxSteps:=1000000) (disch:=omega) only [rg,gD,simprocAttr,f0]
    refine ⟨fun h => ?_,fun h => ?_⟩
    · have k1:k < d.tasks.length:=by omega
      refine x_it d.tasks.length (fun j σ H => 2≤H.n∧H.m 0=some (.arr 2 [dagV d])∧H.m 1=some (.arr 1 (vB (a3r d.tasks j (a3p d.tasks f k))))∧σ=[(2,.ptr 0 0 0),(5,.sl 1 0 d.tasks.length),(8,.int .i64 k),(40,a0j d.tasks),(41,.int .i64 d.tasks.length),(42,.int .i64 j)]) ⟨hq,f0',f1,rfl⟩ ?_
      rintro T3 j σ ⟨q3,m3⟩ hj ⟨hq3,p0,p1,rfl⟩ hN3 hX3 hR3
      simp only at hq3 p0 p1
      simp (maxSteps:=1000000) (disch:=omega) only [rg,gD,simprocAttr,a0j]
      refine ⟨fun h => ?_,fun h => ?_⟩
      · have j1:j < d.tasks.length:=by omega
        have hlr:j < (a3r d.tasks j (a3p d.tasks f k)).length:=by rw [a4w,a4i]; omega
        have hgD:(a3r d.tasks j (a3p d.tasks f k)).getD j false=(a3r d.tasks j (a3p d.tasks f k))[j]:=by simp [List.getD,hlr]
        have hq0:0≠q3:=by omega
        have hq1:1≠q3:=by omega
        simp (maxSteps:=1000000) (disch:=omega) only [rg,gD,simprocAttr,a0q,a0c hq1,p1,b4a hlr]
        cases hb:(a3r d.tasks j (a3p d.tasks f k))[j] with
        | false =>
          simp (maxSteps:=1000000) (disch:=omega) only [rg,gD,simprocAttr,hb]
          refine ⟨h,a0s ?_⟩
          simp (maxSteps:=1000000) (disch:=omega) only [rg,gD,simprocAttr]
          refine hN3 _ _ j1 ?_
          refine ⟨by show 2≤q3+1; omega,(by simp (disch:=omega) only [a0d,a0c,wo_0,wo_1,wo_2,p0]), ?_,rfl⟩
          rw [a3r,hgD,hb,if_neg (by simp)]
          exact (by simp (disch:=omega) only [a0d,a0c,wo_0,wo_1,wo_2,p1])
        | true =>
          simp (maxSteps:=1000000) (disch:=omega) only [rg,gD,simprocAttr,hb,a2m]
          have hx0:=hin _ (List.getElem_mem j1)
          have hx1:=hnl _ (List.getElem_mem j1)
          refine ⟨by omega, ?_⟩
          refine x_it d.tasks[j].needs.length (fun i σ H => 2≤H.n∧H.m 0=some (.arr 2 [dagV d])∧H.m 1=some (.arr 1 (vB (a6o (d.tasks[j].needs.take i) (a3r d.tasks j (a3p d.tasks f k)))))∧σ=[(2,.ptr 0 0 0),(5,.sl 1 0 d.tasks.length),(8,.int .i64 k),(40,a0j d.tasks),(41,.int .i64 d.tasks.length),(42,.int .i64 j),(52,.fsl .loose 1 (vI d.tasks[j].needs)),(53,.int .i64 d.tasks[j].needs.length),(54,.int .i64 i)]) ⟨by show 2≤q3+1; omega,(by simp (disch:=omega) only [a0d,a0c,wo_0,wo_1,wo_2,p0]), ?_,rfl⟩ ?_
          · simp only [List.take_zero,a6o,List.foldl_nil]; exact (by simp (disch:=omega) only [a0d,a0c,wo_0,wo_1,wo_2,p1])
          rintro T4 i σ ⟨q4,m4⟩ hi4 ⟨hq4,r0,r1,rfl⟩ hN4 hX4 hR4
          simp only at hq4 r0 r1
          simp (maxSteps:=1000000) (disch:=omega) only [rg,gD,simprocAttr]
          refine ⟨fun h => ?_,fun h => ?_⟩
          · have i1:i < d.tasks[j].needs.length:=by omega
            have hx:=hx0 _ (List.getElem_mem i1)
            have hlt:d.tasks[j].needs[i].toNat < (a6o (d.tasks[j].needs.take i) (a3r d.tasks j (a3p d.tasks f k))).length:=by rw [a6u,a4w,a4i]; omega
            simp (maxSteps:=1000000) (disch:=omega) only [rg,gD,simprocAttr,a3b,r1,b4a hlt]
            refine ⟨by omega,hN4 _ _ i1 ?_⟩
            refine ⟨hq4,(by simp (disch:=omega) only [a0d,a0c,wo_0,wo_1,wo_2,r0]), ?_,rfl⟩
            rw [b4s i1]; simp only [a0d,vB,a9k]
          · obtain rfl:i=d.tasks[j].needs.length:=by omega
            rw [List.take_length,← a3x j1] at r1
            refine hX4 _ _ _ ?_
            simp (maxSteps:=1000000) (disch:=omega) only [rg,gD,simprocAttr]
            refine a0s ?_
            simp (maxSteps:=1000000) (disch:=omega) only [rg,gD,simprocAttr]
            refine hN3 _ _ j1 ?_
            refine ⟨hq4,r0, ?_,rfl⟩
            rw [a3r,hgD,hb,if_pos rfl]
            exact r1
      · obtain rfl:j=d.tasks.length:=by omega
        refine hX3 _ _ _ ?_
        simp (maxSteps:=1000000) (disch:=omega) only [rg,gD,simprocAttr]
        refine a0s ?_
        simp (maxSteps:=1000000) (disch:=omega) only [rg,gD,simprocAttr]
        exact hN2 _ _ k1 ⟨hq3,p0,p1,rfl⟩
    · obtain rfl:k=d.tasks.length:=by omega
      refine hX2 _ _ _ ?_
      simp (maxSteps:=1000000) (disch:=omega) only [rg,gD,simprocAttr]
      refine c8m [1] ?_; simp only [vr,b0l]; rw [b7z (id:=1) (sz:=1) (l:=vB (a3p d.tasks f d.tasks.length)) (by first | assumption | (simp [upd]; done) | (simp [upd, *]; done)) (by simp) (by first | rfl | (simp [a0k,a5t,d1d,a4i]<;>omega)) (by simp [a0a,V.closed,a5t,d1d,a4i])]
      simp (maxSteps:=1000000) (disch:=omega) only [rg,gD,simprocAttr]
      (refine a0f rfl ?_ ?_<;>simp [pack,lo,loL,V.closed,a0b,a0a,d9o,a5t])
def a3m (d:Dag):Bool:=!(decide (d.tasks.length < 1∨d.name.length < 1∨16 < d.name.length)) && d.tasks.all fun t => a1d t d.tasks.length
theorem c1l (d:Dag) (hd:∀ t∈d.tasks,t.needs.length≤4611686018427387904) (hn:d.tasks.length≤4611686018427387904):PCall Tryz.prog 129 [dagV d] (.bool (a3m d)):=by
  refine en129 (by simp) (by simp [a0b,V.closed,a0i]) ?_
  simp (maxSteps:=1000000) (disch:=omega) only [rg,gD,simprocAttr,c129,dagV,a0j]
  by_cases c1:d.tasks.length < 1
  · simp (maxSteps:=1000000) (disch:=omega) only [rg,gD,simprocAttr,show (d.tasks.length:Int) < 1 by omega]
    (refine a0f rfl ?_ ?_<;>simp [pack,lo,loL,V.closed,a0b,a0a,a3m,c1])
  by_cases c2:d.name.length < 1
  · simp (maxSteps:=1000000) (disch:=omega) only [rg,gD,simprocAttr,show ¬ (d.tasks.length:Int) < 1 by omega,show (d.name.length:Int) < 1 by omega]
    (refine a0f rfl ?_ ?_<;>simp [pack,lo,loL,V.closed,a0b,a0a,a3m,c2])
  by_cases c3:16 < d.name.length
  · simp (maxSteps:=1000000) (disch:=omega) only [rg,gD,simprocAttr,show ¬ (d.tasks.length:Int) < 1 by omega,show ¬ (d.name.length:Int) < 1 by omega,show (16:Int) < d.name.length by omega]
    (refine a0f rfl ?_ ?_<;>simp [pack,lo,loL,V.closed,a0b,a0a,a3m,c3])
  simp (maxSteps:=1000000) (disch:=omega) only [rg,gD,simprocAttr,show ¬ (d.tasks.length:Int) < 1 by omega,show ¬ (d.name.length:Int) < 1 by omega,show ¬ (16:Int) < d.name.length by omega]
  have hS:a3m d=d.tasks.all fun t => a1d t d.tasks.length:=by simp [a3m,c1,c2,c3]
  refine x_it d.tasks.length (fun i σ H => 1≤H.n∧(d.tasks.all fun t => a1d t d.tasks.length)=((d.tasks.drop i).all fun t => a1d t d.tasks.length)∧σ=[(3,.int .i64 d.tasks.length),(26,a0j d.tasks),(27,.int .i64 d.tasks.length),(28,.int .i64 i)]) ⟨Nat.le_refl 1,by simp,rfl⟩ ?_
  rintro T i σ ⟨q,m⟩ hi ⟨hq,hr,rfl⟩ hN hX hR
  simp only at hq
  simp (maxSteps:=1000000) (disch:=omega) only [rg,gD,simprocAttr,a0j]
  refine ⟨fun h => ?_,fun h => ?_⟩
  · have i1:i < d.tasks.length:=by omega
    have hl1:=hd _ (List.getElem_mem i1)
    rw [List.drop_eq_getElem_cons i1,List.all_cons] at hr
    simp (maxSteps:=1000000) (disch:=omega) only [rg,gD,simprocAttr,a0q,a2m]
    refine x_it d.tasks[i].needs.length (fun j σ H => 1≤H.n∧H.m q=some (.arr 4 [.agg [.fsl .loose 1 (vI d.tasks[i].needs),.int .i64 d.tasks[i].tries,.int .i64 d.tasks[i].wait,.int .i64 d.tasks[i].lease]])∧(∃ last,b0m (-1) d.tasks[i].needs d.tasks.length=b0m last (d.tasks[i].needs.drop j) d.tasks.length∧((j=0∧last=-1)∨(0 < j∧d.tasks[i].needs[j - 1]?=some last∧0≤last)))∧σ=[(3,.int .i64 d.tasks.length),(5,.ptr q 0 0),(26,a0j d.tasks),(27,.int .i64 d.tasks.length),(28,.int .i64 i),(33,.fsl .loose 1 (vI d.tasks[i].needs)),(34,.int .i64 d.tasks[i].needs.length),(35,.int .i64 j)]) ⟨by show 1≤q+1; omega,(by simp (disch:=omega) only [a0d,a0c,wo_0,wo_1,wo_2]),⟨-1,by simp,.inl ⟨rfl,rfl⟩⟩,rfl⟩ ?_
    rintro T2 j σ ⟨q2,m2⟩ hj ⟨hq2,e0,⟨last,hs,hla⟩,rfl⟩ hN2 hX2 hR2
    simp only at hq2 e0
    simp (maxSteps:=1000000) (disch:=omega) only [rg,gD,simprocAttr]
    refine ⟨fun h => ?_,fun h => ?_⟩
    · have j1:j < d.tasks[i].needs.length:=by omega
      rw [List.drop_eq_getElem_cons j1,b0m] at hs
      simp (maxSteps:=1000000) (disch:=omega) only [rg,gD,simprocAttr,a3b]
      by_cases d1:d.tasks[i].needs[j] < 0
      · simp (maxSteps:=1000000) (disch:=omega) only [rg,gD,simprocAttr,d1]
        refine hR2 _ _ ?_
        simp (maxSteps:=1000000) (disch:=omega) only [rg,gD,simprocAttr]
        refine hR _ _ ?_
        simp (maxSteps:=1000000) (disch:=omega) only [rg,gD,simprocAttr]
        have:d.tasks[i].needs[j]≤last:=by rcases hla with ⟨_,h⟩ | ⟨_,_,h⟩<;>omega
        have hf:a3m d=false:=by rw [hS,hr,a1d,hs]; simp [this]
        (refine a0f rfl ?_ ?_<;>simp [pack,lo,loL,V.closed,a0b,a0a,hf])
      by_cases d2:(d.tasks.length:Int)≤d.tasks[i].needs[j]
      · simp (maxSteps:=1000000) (disch:=omega) only [rg,gD,simprocAttr,d1,d2]
        refine hR2 _ _ ?_
        simp (maxSteps:=1000000) (disch:=omega) only [rg,gD,simprocAttr]
        refine hR _ _ ?_
        simp (maxSteps:=1000000) (disch:=omega) only [rg,gD,simprocAttr]
        have hf:a3m d=false:=by rw [hS,hr,a1d,hs]; simp [d2]
        (refine a0f rfl ?_ ?_<;>simp [pack,lo,loL,V.closed,a0b,a0a,hf])
      rcases hla with ⟨rfl,rfl⟩ | ⟨h1,h2,h3⟩
      · simp (maxSteps:=1000000) (disch:=omega) only [rg,gD,simprocAttr,d1,d2,show ¬ (0:Int) < ((0:Nat):Int) by omega]
        refine hN2 _ _ j1 ?_
        refine ⟨hq2,e0,⟨d.tasks[i].needs[0],by rw [hs]; simp [d2]; omega,.inr ⟨by omega,by simp,by omega⟩⟩,rfl⟩
      · have hp:(0:Int) < j:=by omega
        have hg:(vI d.tasks[i].needs)[j - 1]?=some (.int .i64 last):=by simp [vI,mv,h2]
        have ht:((j:Int) - 1).toNat=j - 1:=by omega
        simp (maxSteps:=1000000) (disch:=omega) only [rg,gD,simprocAttr,d1,d2,hp,e0,ht,hg]
        refine ⟨by omega,fun g => ?_,fun g => ?_⟩
        · refine hR2 _ _ ?_
          simp (maxSteps:=1000000) (disch:=omega) only [rg,gD,simprocAttr]
          refine hR _ _ ?_
          simp (maxSteps:=1000000) (disch:=omega) only [rg,gD,simprocAttr]
          have hf:a3m d=false:=by rw [hS,hr,a1d,hs]; simp [g]
          (refine a0f rfl ?_ ?_<;>simp [pack,lo,loL,V.closed,a0b,a0a,hf])
        · refine hN2 _ _ j1 ?_
          refine ⟨hq2,e0,⟨d.tasks[i].needs[j],by rw [hs]; simp [d2]; omega,.inr ⟨by omega,by simp,by omega⟩⟩,rfl⟩
    · obtain rfl:j=d.tasks[i].needs.length:=by omega
      rw [List.drop_length,b0m] at hs
      refine hX2 _ _ _ ?_
      simp (maxSteps:=1000000) (disch:=omega) only [rg,gD,simprocAttr]
      refine a0s ?_
      have hno:a2j d.tasks[i]=false→a3m d=false:=fun hf => by rw [hS,hr,a1d,hf]; simp
      by_cases g1:d.tasks[i].tries < 1
      · simp (maxSteps:=1000000) (disch:=omega) only [rg,gD,simprocAttr,e0,g1]
        refine hR _ _ ?_
        simp (maxSteps:=1000000) (disch:=omega) only [rg,gD,simprocAttr]
        (refine a0f rfl ?_ ?_<;>simp [pack,lo,loL,V.closed,a0b,a0a,hno (by simp only [a2j,decide_eq_false_iff_not]; omega)])
      by_cases g2:8 < d.tasks[i].tries
      · simp (maxSteps:=1000000) (disch:=omega) only [rg,gD,simprocAttr,e0,g1,g2]
        refine hR _ _ ?_
        simp (maxSteps:=1000000) (disch:=omega) only [rg,gD,simprocAttr]
        (refine a0f rfl ?_ ?_<;>simp [pack,lo,loL,V.closed,a0b,a0a,hno (by simp only [a2j,decide_eq_false_iff_not]; omega)])
      by_cases g3:d.tasks[i].wait < 0
      · simp (maxSteps:=1000000) (disch:=omega) only [rg,gD,simprocAttr,e0,g1,g2,g3]
        refine hR _ _ ?_
        simp (maxSteps:=1000000) (disch:=omega) only [rg,gD,simprocAttr]
        (refine a0f rfl ?_ ?_<;>simp [pack,lo,loL,V.closed,a0b,a0a,hno (by simp only [a2j,decide_eq_false_iff_not]; omega)])
      by_cases g4:1048576 < d.tasks[i].wait
      · simp (maxSteps:=1000000) (disch:=omega) only [rg,gD,simprocAttr,e0,g1,g2,g3,g4]
        refine hR _ _ ?_
        simp (maxSteps:=1000000) (disch:=omega) only [rg,gD,simprocAttr]
        (refine a0f rfl ?_ ?_<;>simp [pack,lo,loL,V.closed,a0b,a0a,hno (by simp only [a2j,decide_eq_false_iff_not]; omega)])
      by_cases g5:d.tasks[i].lease < 1
      · simp (maxSteps:=1000000) (disch:=omega) only [rg,gD,simprocAttr,e0,g1,g2,g3,g4,g5]
        refine hR _ _ ?_
        simp (maxSteps:=1000000) (disch:=omega) only [rg,gD,simprocAttr]
        (refine a0f rfl ?_ ?_<;>simp [pack,lo,loL,V.closed,a0b,a0a,hno (by simp only [a2j,decide_eq_false_iff_not]; omega)])
      by_cases g6:1048576 < d.tasks[i].lease
      · simp (maxSteps:=1000000) (disch:=omega) only [rg,gD,simprocAttr,e0,g1,g2,g3,g4,g5,g6]
        refine hR _ _ ?_
        simp (maxSteps:=1000000) (disch:=omega) only [rg,gD,simprocAttr]
        (refine a0f rfl ?_ ?_<;>simp [pack,lo,loL,V.closed,a0b,a0a,hno (by simp only [a2j,decide_eq_false_iff_not]; omega)])
      simp (maxSteps:=1000000) (disch:=omega) only [rg,gD,simprocAttr,e0,g1,g2,g3,g4,g5,g6]
      refine a0s ?_
      simp (maxSteps:=1000000) (disch:=omega) only [rg,gD,simprocAttr]
      refine hN _ _ i1 ?_
      refine ⟨hq2, ?_,rfl⟩
      rw [hr,a1d,hs]
      have:a2j d.tasks[i]=true:=by simp only [a2j,decide_eq_true_eq]; omega
      simp [this]
  · obtain rfl:i=d.tasks.length:=by omega
    refine hX _ _ _ ?_
    simp (maxSteps:=1000000) (disch:=omega) only [rg,gD,simprocAttr]
    rw [List.drop_length,List.all_nil] at hr
    refine a0s ?_
    simp (maxSteps:=1000000) (disch:=omega) only [rg,gD,simprocAttr]
    (refine a0f rfl ?_ ?_<;>simp [pack,lo,loL,V.closed,a0b,a0a,hS.trans hr])
def cycK (ts:List Task) (i:Nat):Bool:=(a3p ts i ts.length).getD i false
def cycS (ts:List Task):Bool:=(List.range ts.length).any (cycK ts)
def a5d (d:Dag):Int :=
  if 10 < d.tasks.length then 2 else if a3m d=false then 1 else if cycS d.tasks=true then 160 else 0
theorem b2y (d:Dag) (hd:∀ t∈d.tasks,t.needs.length≤4611686018427387904) (hn:d.tasks.length≤4611686018427387904):PCall Tryz.prog 58 [dagV d] (.int .i64 (a5d d)):=by
  refine en58 (by simp) (by simp [a0b,V.closed,a0i]) ?_
  have ks:=c1l d hd hn
  have kr:=fun f h1 h2 h3 h4 => c3a d f h1 h2 h3 h4
  unfold dagV a0j at ks kr
  simp (maxSteps:=1000000) (disch:=omega) only [rg,gD,simprocAttr,c58,dagV,a0j]
  by_cases c0:10 < d.tasks.length
  · simp (maxSteps:=1000000) (disch:=omega) only [rg,gD,simprocAttr,show (10:Int) < d.tasks.length by omega]
    (refine a0f rfl ?_ ?_<;>simp [pack,lo,loL,V.closed,a0b,a0a,a5d,c0])
  simp (maxSteps:=1000000) (disch:=omega) only [rg,gD,simprocAttr,show ¬ (10:Int) < d.tasks.length by omega]
  refine ⟨_,ks, ?_⟩
  cases hs:a3m d with
  | false =>
    simp (maxSteps:=1000000) (disch:=omega) only [rg,gD,simprocAttr]
    (refine a0f rfl ?_ ?_<;>simp [pack,lo,loL,V.closed,a0b,a0a,a5d,c0,hs])
  | true =>
    have hall:∀ t∈d.tasks,a1d t d.tasks.length=true:=fun t ht => by
      simp only [a3m,Bool.and_eq_true] at hs
      exact List.all_eq_true.1 hs.2 t ht
    have hrg:∀ t∈d.tasks,(∀ x∈t.needs,0≤x∧x < d.tasks.length)∧(t.needs.length:Int)≤max ((d.tasks.length:Int) - 1 - (-1)) 0:=fun t ht => by
      have:=hall t ht
      simp only [a1d,Bool.and_eq_true] at this
      exact a4v this.1 (by omega)
    simp (maxSteps:=1000000) (disch:=omega) only [rg,gD,simprocAttr]
    refine x_it d.tasks.length (fun i σ H => H.m 0=some (.arr 2 [.agg [.str d.name,.fsl .loose 4 (mv a0q d.tasks)]])∧(∀ j,j < i→cycK d.tasks j=false)∧σ=[(1,.ptr 0 0 0),(14,.int .i64 d.tasks.length),(15,.int .i64 i)]) ⟨(by simp (disch:=omega) only [a0d,a0c,wo_0,wo_1,wo_2]),by simp,rfl⟩ ?_
    rintro T i σ ⟨q,m⟩ hi ⟨e0,hr,rfl⟩ hN hX hR
    simp only at e0
    simp (maxSteps:=1000000) (disch:=omega) only [rg,gD,simprocAttr]
    refine ⟨fun h => ?_,fun h => ?_⟩
    · have i1:i < d.tasks.length:=by omega
      simp (maxSteps:=1000000) (disch:=omega) only [rg,gD,simprocAttr,e0]
      refine ⟨_,kr i i1 (by omega) (fun t ht => by have:=(hrg t ht).2; omega) (fun t ht => (hrg t ht).1), ?_⟩
      have hlt:i < (a3p d.tasks i d.tasks.length).length:=by rw [a4i]; exact i1
      have hg:cycK d.tasks i=(a3p d.tasks i d.tasks.length)[i]:=by simp [cycK,List.getD,hlt]
      simp (maxSteps:=1000000) (disch:=omega) only [rg,gD,simprocAttr,b4a hlt,← hg]
      cases hc:cycK d.tasks i with
      | true =>
        simp (maxSteps:=1000000) (disch:=omega) only [rg,gD,simprocAttr]
        refine hR _ _ ?_
        simp (maxSteps:=1000000) (disch:=omega) only [rg,gD,simprocAttr]
        have hc2:cycS d.tasks=true:=by
          simp only [cycS,List.any_eq_true,List.mem_range]
          exact ⟨i,i1,hc⟩
        (refine a0f rfl ?_ ?_<;>simp [pack,lo,loL,V.closed,a0b,a0a,a5d,c0,hs,hc2])
      | false =>
        simp (maxSteps:=1000000) (disch:=omega) only [rg,gD,simprocAttr]
        refine hN _ _ i1 ?_
        refine ⟨e0,fun j hj => ?_,rfl⟩
        rcases Nat.lt_or_ge j i with h' | h'
        · exact hr j h'
        · obtain rfl:j=i:=by omega
          exact hc
    · obtain rfl:i=d.tasks.length:=by omega
      refine hX _ _ _ ?_
      simp (maxSteps:=1000000) (disch:=omega) only [rg,gD,simprocAttr]
      refine a0s ?_
      simp (maxSteps:=1000000) (disch:=omega) only [rg,gD,simprocAttr]
      have hc:cycS d.tasks=false:=by
        simp only [cycS,List.any_eq_false,List.mem_range]
        intro j hj; simp [hr j hj]
      (refine a0f rfl ?_ ?_<;>simp [pack,lo,loL,V.closed,a0b,a0a,a5d,c0,hs,hc])
def ndR (ts:List Task) (b a:Nat):Prop:=(b:Int)∈a4e ts a
theorem c0y {o:List Bool} {k j:Nat}:(o.set k true).getD j false=(o.getD j false || (decide (k=j) && decide (j < o.length))):=by
  simp only [List.getD_eq_getElem?_getD,List.getElem?_set]
  by_cases h:k=j
  · subst h
    by_cases h2:k < o.length
    · simp [h2]
    · simp [h2]
  · simp [h]
theorem d6m {o:List Bool} {j:Nat} (h:o.getD j false=true):j < o.length:=by
  rcases Nat.lt_or_ge j o.length with h' | h'
  · exact h'
  · simp [List.getD_eq_getElem?_getD,h'] at h
theorem a7g:∀ (l:List Int) (o:List Bool) (j:Nat),o.getD j false=true→(a6o l o).getD j false=true
  | [],_,_,h => h
  | x::l,o,j,h => a7g l (o.set x.toNat true) j (by rw [c0y,h]; rfl)
theorem b3r:∀ (l:List Int) (o:List Bool) (j:Nat),j < o.length→(j:Int)∈l→(a6o l o).getD j false=true
  | x::l,o,j,hj,h => by
    show (a6o l (o.set x.toNat true)).getD j false=true
    rcases List.mem_cons.1 h with h | h
    · subst h
      exact a7g l _ j (by rw [c0y]; simp [hj])
    · exact b3r l _ j (by simpa using hj) h
theorem b0a:∀ (l:List Int) (o:List Bool) (j:Nat),(∀ x∈l,0≤x)→(a6o l o).getD j false=true→o.getD j false=true∨(j:Int)∈l
  | [],_,_,_,h => .inl h
  | x::l,o,j,h0,h => by
    have hx:=h0 x (by simp)
    rcases b0a l (o.set x.toNat true) j (fun y hy => h0 y (by simp [hy])) h with h1 | h1
    · rw [c0y] at h1
      simp only [Bool.or_eq_true,Bool.and_eq_true,decide_eq_true_eq] at h1
      rcases h1 with h1 | ⟨h1,_⟩
      · exact .inl h1
      · right; have:(j:Int)=x:=by omega
        simp [this]
    · exact .inr (by simp [h1])
theorem a6b (ts:List Task):∀ (k:Nat) (o:List Bool) (j:Nat),o.getD j false=true→(a3r ts k o).getD j false=true
  | 0,_,_,h => h
  | k+1,o,j,h => by
    rw [a3r]; split
    · exact a7g _ _ _ (a6b ts k o j h)
    · exact a6b ts k o j h
theorem b4j (ts:List Task):∀ (m:Nat) (o:List Bool) (k j:Nat),k < m→j < o.length→o.getD k false=true→ndR ts j k→(a3r ts m o).getD j false=true
  | m+1,o,k,j,hk,hj,h,he => by
    rw [a3r]
    rcases Nat.lt_or_ge k m with h1 | h1
    · have:=b4j ts m o k j h1 hj h he
      split
      · exact a7g _ _ _ this
      · exact this
    · obtain rfl:k=m:=by omega
      rw [if_pos (a6b ts k o k h)]
      exact b3r _ _ _ (by rw [a4w]; exact hj) he
theorem b2o (ts:List Task) (h0:∀ k,∀ x∈a4e ts k,0≤x) (G:Nat→Prop) (hG:∀ b c,G b→ndR ts c b→G c):∀ (m:Nat) (o:List Bool),(∀ j,o.getD j false=true→G j)→∀ j,(a3r ts m o).getD j false=true→G j
  | 0,_,h,j,hj => h j hj
  | m+1,o,h,j,hj => by
    have ih:=b2o ts h0 G hG m o h
    rw [a3r] at hj
    split at hj
    · next hm =>
      rcases b0a _ _ _ (h0 m) hj with h1 | h1
      · exact ih j h1
      · exact hG m j (ih m hm) h1
    · exact ih j hj
theorem b3i (ts:List Task) (h0:∀ k,∀ x∈a4e ts k,0≤x) (i:Nat):∀ (k j:Nat),(a3p ts i k).getD j false=true→Relation.TransGen (ndR ts) j i
  | 0,j,h => by
    rcases b0a _ _ _ (h0 i) h with h1 | h1
    · exfalso
      have:=d6m h1
      simp only [List.length_replicate] at this
      simp [List.getD_eq_getElem?_getD,this] at h1
    · exact .single h1
  | k+1,j,h => b2o ts h0 (fun j => Relation.TransGen (ndR ts) j i) (fun b c hb hc => .trans (.single hc) hb) ts.length _ (fun j hj => b3i ts h0 i k j hj) j h
inductive Way (ts:List Task):Nat→Nat→Nat→Prop
  | one {a b:Nat}:ndR ts b a→Way ts 0 a b
  | more {k a b c:Nat}:Way ts k a b→ndR ts c b→Way ts (k+1) a c
theorem d5w {ts:List Task} (hin:∀ k,∀ x∈a4e ts k,0≤x∧x < ts.length) {a b:Nat} (h:ndR ts b a):b < ts.length∧a < ts.length:=by
  refine ⟨by have:=hin a b h; omega, ?_⟩
  rcases Nat.lt_or_ge a ts.length with h' | h'
  · exact h'
  · simp [ndR,a4e,h'] at h
theorem b4q {ts:List Task} (hin:∀ k,∀ x∈a4e ts k,0≤x∧x < ts.length) {i:Nat}:∀ {k j:Nat},Way ts k i j→(a3p ts i k).getD j false=true
  | 0,j,.one h => b3r _ _ _ (by simpa using (d5w hin h).1) h
  | k+1,j,.more hw h => by
    have:=b4q hin hw
    exact b4j ts _ _ _ _ (d5w hin h).2 (by rw [a4i]; exact (d5w hin h).1) this h
theorem c5c {ts:List Task} {i j k:Nat} (h:(a3p ts i k).getD j false=true):∀ m,k≤m→(a3p ts i m).getD j false=true:=by
  intro m hm
  obtain ⟨d,rfl⟩:=Nat.exists_eq_add_of_le hm
  induction d with
  | zero => exact h
  | succ d ih => exact a6b ts _ _ _ (ih (by omega))
theorem d1o:∀ (n:Nat) (f:Nat→Nat),(∀ k,k≤n→f k < n)→∃ a b,a < b∧b≤n∧f a=f b
  | 0,f,h => absurd (h 0 (Nat.le_refl 0)) (by omega)
  | n+1,f,h => by
    by_cases hc:∃ a,a≤n∧f a=f (n+1)
    · obtain ⟨a,h1,h2⟩:=hc
      exact ⟨a,n+1,by omega,by omega,h2⟩
    · have hc':∀ a,a≤n→f a≠f (n+1):=fun a ha he => hc ⟨a,ha,he⟩
      obtain ⟨a,b,h1,h2,h3⟩:=d1o n (fun k => if f k=n then f (n+1) else f k) (fun k hk => by
        have:=h k (by omega)
        have:=h (n+1) (by omega)
        have:=hc' k hk
        split<;>omega)
      refine ⟨a,b,h1,by omega, ?_⟩
      have ha:=hc' a (by omega)
      have hb:=hc' b (by omega)
      split at h3<;>split at h3<;>omega
theorem d3j {r:Nat→Nat→Prop} {a:Nat} (h:Acc r a):¬ r a a:=by
  induction h with
  | intro a _ ih => exact fun hr => ih a hr hr
theorem b4d {ts:List Task} (hin:∀ k,∀ x∈a4e ts k,0≤x∧x < ts.length):∀ (k:Nat) (done:List Bool) (out:List Int),done.length=ts.length→ts.length < k+done.count true→out.length=done.count true→(∀ j,done.getD j false=true→Acc (ndR ts) j) →
    ∃ d:List Bool,d.length=ts.length∧a3s ts d ts.length=[]∧d.count true=(b4o ts k done out).length∧∀ j,d.getD j false=true→Acc (ndR ts) j
  | 0,done,out,h1,h2,_,_ => by have:=List.count_le_length (l:=done) (a:=true); omega
  | k+1,done,out,h1,h2,h3,h4 => by
    rw [b4o]
    cases hf:a3s ts done ts.length with
    | nil => exact ⟨done,h1,hf,h3.symm,h4⟩
    | cons x l =>
      obtain ⟨i,hx,hi,hb⟩:=b2f (x:=x) (by rw [hf]; simp)
      subst hx
      simp only [a7w,Bool.and_eq_true,Bool.not_eq_true'] at hb
      have hc:=count_set (show i < done.length by omega) hb.1
      have:=b4d hin k (done.set i true) (out++[(i:Int)]) (by simpa using h1) (by omega) (by simp; omega) (fun j hj => by
        rw [c0y] at hj
        simp only [Bool.or_eq_true,Bool.and_eq_true,decide_eq_true_eq] at hj
        rcases hj with hj | ⟨rfl,_⟩
        · exact h4 j hj
        · refine Acc.intro _ fun b hbn => ?_
          have hbn':(b:Int)∈ts[i].needs:=by rwa [ndR,a3x hi] at hbn
          have:=List.all_eq_true.1 hb.2 _ hbn'
          exact h4 b (by simpa using this))
      simpa using this
theorem c5l {ts:List Task} (hr:inR ts ts.length):cycS ts=decide ((b0f ts).length < ts.length):=by
  have hin:∀ k,∀ x∈a4e ts k,0≤x∧x < ts.length:=fun k x hx => by
    rcases Nat.lt_or_ge k ts.length with h | h
    · rw [a3x h] at hx; exact hr _ (List.getElem_mem h) x hx
    · simp [a4e,h] at hx
  obtain ⟨d,h1,h2,h3,h4⟩:=b4d hin (ts.length+1) (List.replicate ts.length false) [] (by simp) (by omega) (by simp [List.count_replicate]) (fun j hj => by
    have:=d6m hj; simp only [List.length_replicate] at this
    simp [List.getD_eq_getElem?_getD,this] at hj)
  have h3':d.count true=(b0f ts).length:=h3
  by_cases hlt:(b0f ts).length < ts.length
  · simp only [hlt,decide_true]
    -- one that is not done
    obtain ⟨i0,hi0,hd0⟩:∃ i,i < ts.length∧d.getD i false=false:=by
      apply Classical.byContradiction
      intro hno
      have:d.count true=d.length:=List.count_eq_length.2 (fun b hb => by
        obtain ⟨i,hi,rfl⟩:=List.mem_iff_getElem.1 hb
        cases hc:d[i] with
        | true => rfl
        | false => exact absurd ⟨i,by omega,by simp [List.getD_eq_getElem?_getD,hi,hc]⟩ hno)
      omega
    have hnext:∀ i,∃ j,(i < ts.length∧d.getD i false=false)→(j < ts.length∧d.getD j false=false∧ndR ts j i):=fun i => by
      by_cases hc:i < ts.length∧d.getD i false=false
      · obtain ⟨hi,hdi⟩:=hc
        have hnf:a7w ts[i] d i=false:=by
          cases hfb:a7w ts[i] d i with
          | false => rfl
          | true =>
            have:(i:Int)∈a3s ts d ts.length:=by
              simp only [a3s,List.mem_map,List.mem_filter,List.take_length]
              exact ⟨(ts[i],i),⟨by rw [List.mem_zipIdx_iff_getElem?]; simp [hi],hfb⟩,rfl⟩
            rw [h2] at this; cases this
        rw [a7w,hdi,Bool.not_false,Bool.true_and] at hnf
        obtain ⟨x,hx,hxd⟩:=List.all_eq_false.1 hnf
        have hxr:=hr _ (List.getElem_mem hi) x hx
        refine ⟨x.toNat,fun _ => ⟨by omega,by simpa using hxd, ?_⟩⟩
        rw [ndR,a3x hi,show ((x.toNat:Nat):Int)=x by omega]; exact hx
      · exact ⟨0,fun h => absurd h hc⟩
    let nx:Nat→Nat:=fun i => Classical.choose (hnext i)
    have hnx:∀ i,(i < ts.length∧d.getD i false=false)→(nx i < ts.length∧d.getD (nx i) false=false∧ndR ts (nx i) i):=fun i => Classical.choose_spec (hnext i)
    let f:Nat→Nat:=fun k => Nat.rec i0 (fun _ r => nx r) k
    have hf:∀ k,f k < ts.length∧d.getD (f k) false=false:=fun k => by
      induction k with
      | zero => exact ⟨hi0,hd0⟩
      | succ k ih => exact ⟨(hnx (f k) ih).1,(hnx (f k) ih).2.1⟩
    have hstep:∀ k,ndR ts (f (k+1)) (f k):=fun k => (hnx (f k) (hf k)).2.2
    have hway:∀ m a,Way ts m (f a) (f (a+m+1)):=fun m => by
      induction m with
      | zero => exact fun a => .one (hstep a)
      | succ m ih => exact fun a => .more (ih a) (hstep (a+m+1))
    obtain ⟨a,b,k1,k2,k3⟩:=d1o ts.length f (fun k _ => (hf k).1)
    have hw:=hway (b - a - 1) a
    rw [show a+(b - a - 1)+1=b by omega,← k3] at hw
    simp only [cycS,List.any_eq_true,List.mem_range]
    exact ⟨f a,(hf a).1,c5c (b4q hin hw) _ (by omega)⟩
  · simp only [hlt,decide_false]
    have hfull:d.count true=d.length:=by have:=List.count_le_length (l:=d) (a:=true); omega
    have hacc:∀ j,j < ts.length→Acc (ndR ts) j:=fun j hj => h4 j (by
      have:=List.count_eq_length.1 hfull d[j] (List.getElem_mem (by omega))
      simp [List.getD_eq_getElem?_getD,show j < d.length by omega,← this])
    simp only [cycS,List.any_eq_false,List.mem_range]
    intro j hj hc
    exact d3j (hacc j hj).transGen (b3i ts (fun k x hx => (hin k x hx).1) j _ j hc)
theorem a9v (d:Dag):a5d d=a0t d:=by
  unfold a5d a0t
  by_cases c0:10 < d.tasks.length
  · rw [if_pos c0,if_pos c0]
  rw [if_neg c0,if_neg c0]
  have e:a3m d=false↔(d.tasks.length < 1∨d.name.length < 1∨16 < d.name.length∨(d.tasks.any fun t => !a1d t d.tasks.length)=true):=by
    have hall:(d.tasks.any fun t => !a1d t d.tasks.length)=!(d.tasks.all fun t => a1d t d.tasks.length):=by rw [List.not_all_eq_any_not]
    rw [hall,a3m]
    cases (d.tasks.all fun t => a1d t d.tasks.length)
    · simp only [Bool.and_false,Bool.not_false,or_true]
    · simp only [Bool.and_true,Bool.not_true,Bool.not_eq_false',decide_eq_true_eq,Bool.false_eq_true,or_false]
  by_cases c1:a3m d=false
  · rw [if_pos c1,if_pos (e.1 c1)]
  · rw [if_neg c1,if_neg (fun h => c1 (e.2 h))]
    have hin:inR d.tasks d.tasks.length:=fun t ht => by
      have:a1d t d.tasks.length=true:=by
        cases hk:a1d t d.tasks.length with
        | true => rfl
        | false => exact absurd (e.2 (.inr (.inr (.inr (List.any_eq_true.2 ⟨t,ht,by rw [hk]; rfl⟩))))) c1
      simp only [a1d,Bool.and_eq_true] at this
      exact (a4v this.1 (by omega)).1
    rw [c5l hin]
    simp only [decide_eq_true_eq]
theorem b8i (l:List Int) (p:Int):a0r (l++[p])=min (a0r l+a7z p) MT:=by simp [a0r,List.foldl_append]
theorem b1w {l:List Int} {i:Nat} (h:i < l.length):a0r (l.take (i+1))=min (a0r (l.take i)+a7z l[i]) MT:=by rw [List.take_succ_eq_append_getElem h,b8i]
theorem a8p (now:Int) (st:St):PCall Tryz.prog 236 [.int .i64 now,.fsl st 1 []] (.int .i64 (a0r [now])):=by
  refine en236 (by simp) (by simp [a0b,V.closed]) ?_
  simp (maxSteps:=1000000) (disch:=omega) only [rg,gD,simprocAttr,c236,appO]
  refine a0s ?_
  simp (maxSteps:=1000000) (disch:=omega) only [rg,gD,simprocAttr]
  refine b1z 1 (fun _ => True) (fun i => [(5,.int .i64 (a0r ([now].take i))),(11,.fsl .full 1 (vI [now])),(12,.int .i64 (([now].length:Nat):Int)),(13,.int .i64 (i:Int))]) trivial (by simp [a0r,vI,mv]) ?_
  rintro T i hi _ hN hX hR
  have hr:=b0k ([now].take i)
  simp only [MT] at hr
  simp (maxSteps:=1000000) (disch:=omega) only [rg,gD,simprocAttr]
  refine ⟨fun h => ?_,fun h => ?_⟩
  · have i1:i < [now].length:=by simp at h ⊢; omega
    simp (maxSteps:=1000000) (disch:=omega) only [rg,gD,simprocAttr,a3b i1,a2m]
    refine hN _ (by simpa using i1) trivial ?_
    rw [b1w i1]; rfl
  · obtain rfl:i=1:=by simp at h; omega
    refine hX _ _ _ ?_
    simp (maxSteps:=1000000) (disch:=omega) only [rg,gD,simprocAttr]
    refine a0s ?_
    simp (maxSteps:=1000000) (disch:=omega) only [rg,gD,simprocAttr]
    (refine a0f rfl ?_ ?_<;>simp [pack,lo,loL,V.closed,a0b,a0a,show [now].take 1=[now] from rfl])
theorem a8m (now p:Int) (st:St):PCall Tryz.prog 236 [.int .i64 now,.fsl st 1 [.int .i64 p]] (.int .i64 (a0r [now,p])):=by
  refine en236 (by simp) (by simp [a0b,V.closed]) ?_
  simp (maxSteps:=1000000) (disch:=omega) only [rg,gD,simprocAttr,c236,appO]
  refine c8m [0] ?_
  simp only [vr,b0l]
  rw [b7z (id:=0) (len:=2) (sz:=1) (l:=[V.int .i64 now,.int .i64 p]) (by simp [upd]) (by simp) rfl (by simp [a0b,V.closed])]
  simp (maxSteps:=1000000) (disch:=omega) only [rg,gD,simprocAttr]
  refine b1z 2 (fun _ => True) (fun i => [(5,.int .i64 (a0r ([now,p].take i))),(11,.fsl .loose 1 (vI [now,p])),(12,.int .i64 (([now,p].length:Nat):Int)),(13,.int .i64 (i:Int))]) trivial (by simp [a0r,vI,mv]) ?_
  rintro T i hi _ hN hX hR
  have hr:=b0k ([now,p].take i)
  simp only [MT] at hr
  simp (maxSteps:=1000000) (disch:=omega) only [rg,gD,simprocAttr]
  refine ⟨fun h => ?_,fun h => ?_⟩
  · have i1:i < [now,p].length:=by simp at h ⊢; omega
    simp (maxSteps:=1000000) (disch:=omega) only [rg,gD,simprocAttr,a3b i1,a2m]
    refine hN _ (by simpa using i1) trivial ?_
    rw [b1w i1]; rfl
  · obtain rfl:i=2:=by simp at h; omega
    refine hX _ _ _ ?_
    simp (maxSteps:=1000000) (disch:=omega) only [rg,gD,simprocAttr]
    refine a0s ?_
    simp (maxSteps:=1000000) (disch:=omega) only [rg,gD,simprocAttr]
    (refine a0f rfl ?_ ?_<;>simp [pack,lo,loL,V.closed,a0b,a0a,show [now,p].take 2=[now,p] from rfl])
def ruS (n:Int) (l:List Int):Int:=l.foldl (fun s p => s+max p 0) (max n 0)
theorem a7n {n:Int} {l:List Int} {i:Nat} (h:i < l.length):ruS n (l.take (i+1))=ruS n (l.take i)+max l[i] 0:=by
  rw [List.take_succ_eq_append_getElem h,ruS,List.foldl_append]; rfl
theorem b5x:∀ (l:List Int) (s:Int),s≤l.foldl (fun s p => s+max p 0) s
  | [],s => Int.le_refl _
  | p::l,s => Int.le_trans (by omega) (b5x l (s+max p 0))
theorem b1b (n:Int) (l:List Int) (i:Nat):ruS n (l.take i)≤ruS n l∧0≤ruS n (l.take i):=by
  refine ⟨?_,Int.le_trans (by omega) (b5x _ _)⟩
  conv => rhs; rw [← List.take_append_drop i l,ruS,List.foldl_append]
  exact b5x _ _
theorem c1v (n:Int) (l:List Int):a0r (n::l)=min (ruS n l) MT:=by
  have:∀ (l:List Int) (a b:Int),0≤b→a=min b MT→l.foldl (fun s p => min (s+a7z p) MT) a=min (l.foldl (fun s p => s+max p 0) b) MT:=by
    intro l
    induction l with
    | nil => intro a b _ h; exact h
    | cons p l ih =>
      intro a b hb h
      refine ih _ _ (show 0≤b+max p 0 by omega) ?_
      show min (a+a7z p) MT=min (b+max p 0) MT
      simp only [a7z,MT] at *; omega
  exact this l _ _ (by omega) (by simp only [a7z,MT]; omega)
theorem a9i (n:Int) (l:List Int) (st:St) (hl:l.length≤1000000):PCall Tryz.prog 220 [.int .i64 n,.fsl st 1 (vI l)] (.int .i64 (a0r (n::l))):=by
  refine en220 (by simp) (by simp [a0b,V.closed,a2s]) ?_
  rw [c1v]
  have z0:ruS n []=max n 0:=rfl
  by_cases h0:0 < n
  · simp (maxSteps:=1000000) (disch:=omega) only [rg,gD,simprocAttr,c220,a2m,h0]
    refine b1z l.length (fun _ => True) (fun i => [(5,.int .i64 (ruS n (l.take i))),(11,.fsl st 1 (vI l)),(12,.int .i64 (l.length:Int)),(13,.int .i64 (i:Int))]) trivial (by rw [List.take_zero,z0,show max n 0=n by omega]; rfl) ?_
    rintro T i hi _ hN hX hR
    have hp:=b1b n l i
    simp (maxSteps:=1000000) (disch:=omega) only [rg,gD,simprocAttr]
    refine ⟨fun h => ?_,fun h => ?_⟩
    · have i1:i < l.length:=by omega
      have hq:=b1b n l (i+1)
      rw [a7n i1] at hq
      by_cases a1:1099511627776≤ruS n (l.take i)
      · simp (maxSteps:=1000000) (disch:=omega) only [rg,gD,simprocAttr,a3b i1,a1,ge_iff_le]
        refine hR _ _ ?_
        (refine a0f rfl ?_ ?_<;>simp [pack,lo,loL,V.closed,a0b,a0a,MT])
        omega
      by_cases a2:1099511627776≤l[i]
      · simp (maxSteps:=1000000) (disch:=omega) only [rg,gD,simprocAttr,a3b i1,a1,a2,ge_iff_le]
        refine hR _ _ ?_
        (refine a0f rfl ?_ ?_<;>simp [pack,lo,loL,V.closed,a0b,a0a,MT])
        omega
      by_cases a3:0 < l[i]
      · simp (maxSteps:=1000000) (disch:=omega) only [rg,gD,simprocAttr,a3b i1,a1,a2,a3,ge_iff_le]
        refine hN _ i1 trivial ?_
        rw [a7n i1,show max l[i] 0=l[i] by omega]; rfl
      · simp (maxSteps:=1000000) (disch:=omega) only [rg,gD,simprocAttr,a3b i1,a1,a2,a3,ge_iff_le]
        refine hN _ i1 trivial ?_
        rw [a7n i1,show max l[i] 0=0 by omega]; simp
    · obtain rfl:i=l.length:=by omega
      rw [List.take_length] at hp ⊢
      refine hX _ _ _ ?_
      by_cases a1:1099511627776 < ruS n l
      · simp (maxSteps:=1000000) (disch:=omega) only [rg,gD,simprocAttr,a1]
        refine a0s ?_
        simp (maxSteps:=1000000) (disch:=omega) only [rg,gD,simprocAttr,a1]
        (refine a0f rfl ?_ ?_<;>simp [pack,lo,loL,V.closed,a0b,a0a,MT])
        omega
      · simp (maxSteps:=1000000) (disch:=omega) only [rg,gD,simprocAttr,a1]
        refine a0s ?_
        simp (maxSteps:=1000000) (disch:=omega) only [rg,gD,simprocAttr,a1]
        (refine a0f rfl ?_ ?_<;>simp [pack,lo,loL,V.closed,a0b,a0a,MT])
        omega
  · simp (maxSteps:=1000000) (disch:=omega) only [rg,gD,simprocAttr,c220,a2m,h0]
    refine b1z l.length (fun _ => True) (fun i => [(5,.int .i64 (ruS n (l.take i))),(11,.fsl st 1 (vI l)),(12,.int .i64 (l.length:Int)),(13,.int .i64 (i:Int))]) trivial (by rw [List.take_zero,z0,show max n 0=0 by omega]; rfl) ?_
    rintro T i hi _ hN hX hR
    have hp:=b1b n l i
    simp (maxSteps:=1000000) (disch:=omega) only [rg,gD,simprocAttr]
    refine ⟨fun h => ?_,fun h => ?_⟩
    · have i1:i < l.length:=by omega
      have hq:=b1b n l (i+1)
      rw [a7n i1] at hq
      by_cases a1:1099511627776≤ruS n (l.take i)
      · simp (maxSteps:=1000000) (disch:=omega) only [rg,gD,simprocAttr,a3b i1,a1,ge_iff_le]
        refine hR _ _ ?_
        (refine a0f rfl ?_ ?_<;>simp [pack,lo,loL,V.closed,a0b,a0a,MT])
        omega
      by_cases a2:1099511627776≤l[i]
      · simp (maxSteps:=1000000) (disch:=omega) only [rg,gD,simprocAttr,a3b i1,a1,a2,ge_iff_le]
        refine hR _ _ ?_
        (refine a0f rfl ?_ ?_<;>simp [pack,lo,loL,V.closed,a0b,a0a,MT])
        omega
      by_cases a3:0 < l[i]
      · simp (maxSteps:=1000000) (disch:=omega) only [rg,gD,simprocAttr,a3b i1,a1,a2,a3,ge_iff_le]
        refine hN _ i1 trivial ?_
        rw [a7n i1,show max l[i] 0=l[i] by omega]; rfl
      · simp (maxSteps:=1000000) (disch:=omega) only [rg,gD,simprocAttr,a3b i1,a1,a2,a3,ge_iff_le]
        refine hN _ i1 trivial ?_
        rw [a7n i1,show max l[i] 0=0 by omega]; simp
    · obtain rfl:i=l.length:=by omega
      rw [List.take_length] at hp ⊢
      refine hX _ _ _ ?_
      by_cases a1:1099511627776 < ruS n l
      · simp (maxSteps:=1000000) (disch:=omega) only [rg,gD,simprocAttr,a1]
        refine a0s ?_
        simp (maxSteps:=1000000) (disch:=omega) only [rg,gD,simprocAttr,a1]
        (refine a0f rfl ?_ ?_<;>simp [pack,lo,loL,V.closed,a0b,a0a,MT])
        omega
      · simp (maxSteps:=1000000) (disch:=omega) only [rg,gD,simprocAttr,a1]
        refine a0s ?_
        simp (maxSteps:=1000000) (disch:=omega) only [rg,gD,simprocAttr,a1]
        (refine a0f rfl ?_ ?_<;>simp [pack,lo,loL,V.closed,a0b,a0a,MT])
        omega
theorem c3w (w:Int) (i:Nat):w*2 ^ (i+1)=2*(w*2 ^ i):=by rw [Int.pow_succ]; rw [← Int.mul_assoc,Int.mul_comm]
theorem c8b {w:Int} (h:1≤w) (i:Nat):(i:Int) < w*2 ^ i:=by
  induction i with
  | zero => simp; omega
  | succ i ih => rw [c3w]; omega
theorem b7b {w:Int} (h:1≤w) {i j:Nat} (hij:i≤j):w*2 ^ i≤w*2 ^ j:=by
  induction j with
  | zero => obtain rfl : i = 0 := by omega
            exact Int.le_refl _
  | succ j ih =>
    by_cases e:i=j+1
    · subst e; exact Int.le_refl _
    · have:=ih (by omega)
      have:=c8b h j
      rw [c3w]; omega
theorem b0u {w t:Int} (h:w < 1∨t < 1):a7x w t=0:=by simp [a7x,h]
theorem c0c {w t:Int} (h:¬ (w < 1∨t < 1)):a7x w t=min (w*2 ^ (t - 1).toNat) MW:=by simp only [a7x,if_neg h]
theorem c3s (w t:Int):PCall Tryz.prog 221 [.int .i64 w,.int .i64 t] (.int .i64 (a7x w t)):=by
  refine en221 (by simp) (by simp [a0b,V.closed]) ?_
  by_cases c1:w < 1
  · simp (maxSteps:=1000000) (disch:=omega) only [rg,gD,simprocAttr,c221,c1]
    (refine a0f rfl ?_ ?_<;>simp [pack,lo,loL,V.closed,a0b,a0a,b0u (.inl c1)])
  by_cases c2:t < 1
  · simp (maxSteps:=1000000) (disch:=omega) only [rg,gD,simprocAttr,c221,c1,c2]
    (refine a0f rfl ?_ ?_<;>simp [pack,lo,loL,V.closed,a0b,a0a,b0u (.inr c2)])
  have e:=c0c (w:=w) (t:=t) (by omega)
  by_cases c3:1048576≤w
  · simp (maxSteps:=1000000) (disch:=omega) only [rg,gD,simprocAttr,c221,c1,c2,c3,ge_iff_le]
    have h1:=b7b (w:=w) (by omega) (Nat.zero_le (t - 1).toNat)
    rw [Int.pow_zero,Int.mul_one] at h1
    (refine a0f rfl ?_ ?_<;>simp [pack,lo,loL,V.closed,a0b,a0a,show a7x w t=1048576 by rw [e]; simp only [MW]; omega])
  by_cases c4:40 < t
  · simp (maxSteps:=1000000) (disch:=omega) only [rg,gD,simprocAttr,c221,c1,c2,c3,c4,ge_iff_le]
    have h1:=b7b (w:=w) (i:=40) (j:=(t - 1).toNat) (by omega) (by omega)
    rw [show (2:Int) ^ 40=1099511627776 from rfl] at h1
    (refine a0f rfl ?_ ?_<;>simp [pack,lo,loL,V.closed,a0b,a0a,show a7x w t=1048576 by rw [e]; simp only [MW]; omega])
  simp (maxSteps:=1000000) (disch:=omega) only [rg,gD,simprocAttr,c221,c1,c2,c3,c4,ge_iff_le]
  obtain ⟨n,rfl⟩:∃ n:Nat,t=(n:Int)+1:=⟨(t - 1).toNat,by omega⟩
  have hn:n < 40:=by omega
  rw [show ((n:Int)+1 - 1).toNat=n by omega] at e
  refine b1z n (fun _ => True) (fun i => [(0,.int .i64 (w*2 ^ i)),(1,.int .i64 ((n:Int)+1)),(5,.int .i64 ((i:Int)+1))]) trivial (by simp) ?_
  rintro T i hi _ hN hX hR
  have b0:w*2 ^ i≤w*2 ^ 39:=b7b (by omega) (by omega)
  have b1:=c8b (w:=w) (by omega) i
  rw [show (2:Int) ^ 39=549755813888 from rfl] at b0
  simp (maxSteps:=1000000) (disch:=omega) only [rg,gD,simprocAttr]
  refine ⟨fun h => ?_,fun h => ?_⟩
  · have i1:i < n:=by omega
    refine hN _ i1 trivial ?_
    rw [c3w]; rfl
  · obtain rfl:i=n:=by omega
    refine hX _ _ _ ?_
    by_cases c5:1048576 < w*2 ^ i
    · simp (maxSteps:=1000000) (disch:=omega) only [rg,gD,simprocAttr,c5]
      refine a0s ?_
      simp (maxSteps:=1000000) (disch:=omega) only [rg,gD,simprocAttr,c5]
      (refine a0f rfl ?_ ?_<;>simp [pack,lo,loL,V.closed,a0b,a0a,e,MW])
      omega
    · simp (maxSteps:=1000000) (disch:=omega) only [rg,gD,simprocAttr,c5]
      refine a0s ?_
      simp (maxSteps:=1000000) (disch:=omega) only [rg,gD,simprocAttr,c5]
      (refine a0f rfl ?_ ?_<;>simp [pack,lo,loL,V.closed,a0b,a0a,e,MW])
      omega
theorem c1f (w t:Int) (ht:t≤1000000):PCall Tryz.prog 237 [.int .i64 w,.int .i64 t] (.int .i64 (a7x w t)):=by
  refine en237 (by simp) (by simp [a0b,V.closed]) ?_
  by_cases c1:w < 1
  · simp (maxSteps:=1000000) (disch:=omega) only [rg,gD,simprocAttr,c237,c1]
    (refine a0f rfl ?_ ?_<;>simp [pack,lo,loL,V.closed,a0b,a0a,b0u (.inl c1)])
  by_cases c2:t < 1
  · simp (maxSteps:=1000000) (disch:=omega) only [rg,gD,simprocAttr,c237,c1,c2]
    (refine a0f rfl ?_ ?_<;>simp [pack,lo,loL,V.closed,a0b,a0a,b0u (.inr c2)])
  have e:=c0c (w:=w) (t:=t) (by omega)
  simp (maxSteps:=1000000) (disch:=omega) only [rg,gD,simprocAttr,c237,c1,c2]
  obtain ⟨n,rfl⟩:∃ n:Nat,t=(n:Int)+1:=⟨(t - 1).toNat,by omega⟩
  rw [show ((n:Int)+1 - 1).toNat=n by omega] at e
  obtain ⟨m,hm⟩:∃ m,min w 1048576=m:=⟨_,rfl⟩
  rw [hm]
  have m1:1≤m:=by omega
  have hmw:∀ k:Nat,m*2 ^ k≤w*2 ^ k:=fun k => Int.mul_le_mul_of_nonneg_right (by omega) (Int.pow_nonneg (by omega))
  have fin:∀ i,i≤n→(i < n→1048576≤m*2 ^ i)→min (m*2 ^ i) 1048576=a7x w ((n:Int)+1):=by
    intro i hi hlt
    rw [e]; simp only [MW]
    have a1:=hmw n
    by_cases hin:i=n
    · subst hin
      by_cases hw:w≤1048576
      · rw [show m=w by omega]
      · have:=b7b m1 (Nat.zero_le i)
        rw [Int.pow_zero,Int.mul_one] at this
        omega
    · have a2:=hlt (by omega)
      have a3:=b7b m1 hi
      omega
  refine b1z 1048577 (fun i => i≤n∧∀ j,j < i→m*2 ^ j < 1048576) (fun i => [(0,.int .i64 (m*2 ^ i)),(1,.int .i64 ((n:Int)+1 - i))]) ⟨Nat.zero_le _,by omega⟩ (by simp) ?_
  rintro T i hi ⟨hin,hp⟩ hN hX hR
  have b1:=c8b m1 i
  have b2:m*2 ^ i < 2097153:=by
    cases i with
    | zero => rw [Int.pow_zero,Int.mul_one]; omega
    | succ j => have:=hp j (by omega); rw [c3w]; omega
  have stop:(i < n→1048576≤m*2 ^ i)→T (.exit 0) [(0,.int .i64 (m*2 ^ i)),(1,.int .i64 ((n:Int)+1 - i)),(18,.bool false)] ⟨0,fun _ => none⟩:=fun hlt => by
    refine hX _ _ _ ?_
    simp (maxSteps:=1000000) (disch:=omega) only [rg,gD,simprocAttr]
    refine a0s ?_
    simp (maxSteps:=1000000) (disch:=omega) only [rg,gD,simprocAttr]
    (refine a0f rfl ?_ ?_<;>simp [pack,lo,loL,V.closed,a0b,a0a,fin i hin hlt])
  by_cases d1:1 < (n:Int)+1 - i
  · by_cases d2:m*2 ^ i < 1048576
    · simp (maxSteps:=1000000) (disch:=omega) only [rg,gD,simprocAttr,d1,d2]
      refine hN _ (by omega) ⟨by omega,fun j hj => ?_⟩ ?_
      · by_cases hji:j=i
        · subst hji; exact d2
        · exact hp j (by omega)
      · rw [c3w,Int.mul_comm]
        simp; omega
    · simp (maxSteps:=1000000) (disch:=omega) only [rg,gD,simprocAttr,d1,d2]
      exact stop fun _ => by omega
  · simp (maxSteps:=1000000) (disch:=omega) only [rg,gD,simprocAttr,d1]
    exact stop fun h => by omega
theorem c1h (s:Stt):PCall Tryz.prog 233 [sttV s] (sttV (a2r s)):=by
  refine en233 (by simp) (by simp [a0b,V.closed,a0e]) ?_
  by_cases c:s.is=0
  · simp (maxSteps:=1000000) (disch:=omega) only [rg,gD,simprocAttr,c233,sttV,c]
    (refine a0f rfl ?_ ?_<;>simp [pack,lo,loL,V.closed,a0b,a0a,a2r,c,sttV])
  · simp (maxSteps:=1000000) (disch:=omega) only [rg,gD,simprocAttr,c233,sttV,c]
    (refine a0f rfl ?_ ?_<;>simp [pack,lo,loL,V.closed,a0b,a0a,a2r,c,sttV])
theorem c3b (s:Stt):PCall Tryz.prog 171 [sttV s] (sttV (a2r s)):=by
  refine en171 (by simp) (by simp [a0b,V.closed,a0e]) ?_
  by_cases c:s.is=0
  · simp (maxSteps:=1000000) (disch:=omega) only [rg,gD,simprocAttr,c171,sttV,c]
    (refine a0f rfl ?_ ?_<;>simp [pack,lo,loL,V.closed,a0b,a0a,a2r,c,sttV])
  · simp (maxSteps:=1000000) (disch:=omega) only [rg,gD,simprocAttr,c171,sttV,c]
    (refine a0f rfl ?_ ?_<;>simp [pack,lo,loL,V.closed,a0b,a0a,a2r,c,sttV])
theorem b2s (s:Stt):PCall Tryz.prog 217 [sttV s] (sttV (a1o s)):=by
  refine en217 (by simp) (by simp [a0b,V.closed,a0e]) ?_
  by_cases c0:s.is=0
  · simp (maxSteps:=1000000) (disch:=omega) only [rg,gD,simprocAttr,c217,sttV,c0]
    (refine a0f rfl ?_ ?_<;>simp [pack,lo,loL,V.closed,a0b,a0a,a1o,c0,sttV])
  by_cases c1:s.is=1
  · simp (maxSteps:=1000000) (disch:=omega) only [rg,gD,simprocAttr,c217,sttV,c0,c1]
    (refine a0f rfl ?_ ?_<;>simp [pack,lo,loL,V.closed,a0b,a0a,a1o,c1,sttV])
  by_cases c2:s.is=2
  · simp (maxSteps:=1000000) (disch:=omega) only [rg,gD,simprocAttr,c217,sttV,c0,c1,c2]
    (refine a0f rfl ?_ ?_<;>simp [pack,lo,loL,V.closed,a0b,a0a,a1o,c2,sttV])
  · simp (maxSteps:=1000000) (disch:=omega) only [rg,gD,simprocAttr,c217,sttV,c0,c1,c2]
    (refine a0f rfl ?_ ?_<;>simp [pack,lo,loL,V.closed,a0b,a0a,a1o,c0,c1,c2,sttV])
theorem b4k (s:Stt):PCall Tryz.prog 169 [sttV s] (sttV (a1o s)):=by
  refine en169 (by simp) (by simp [a0b,V.closed,a0e]) ?_
  by_cases c0:s.is=0
  · simp (maxSteps:=1000000) (disch:=omega) only [rg,gD,simprocAttr,c169,sttV,c0]
    (refine a0f rfl ?_ ?_<;>simp [pack,lo,loL,V.closed,a0b,a0a,a1o,c0,sttV])
  by_cases c1:s.is=1
  · simp (maxSteps:=1000000) (disch:=omega) only [rg,gD,simprocAttr,c169,sttV,c0,c1]
    (refine a0f rfl ?_ ?_<;>simp [pack,lo,loL,V.closed,a0b,a0a,a1o,c1,sttV])
  by_cases c2:s.is=2
  · simp (maxSteps:=1000000) (disch:=omega) only [rg,gD,simprocAttr,c169,sttV,c0,c1,c2]
    (refine a0f rfl ?_ ?_<;>simp [pack,lo,loL,V.closed,a0b,a0a,a1o,c2,sttV])
  · simp (maxSteps:=1000000) (disch:=omega) only [rg,gD,simprocAttr,c169,sttV,c0,c1,c2]
    (refine a0f rfl ?_ ?_<;>simp [pack,lo,loL,V.closed,a0b,a0a,a1o,c0,c1,c2,sttV])
theorem c5w (t:Task) (s:Stt) (r:Str):PCall Tryz.prog 214 [a0q t,sttV s,.str r] (seV (a2o s r)):=by
  refine en214 (by simp) (by simp [a0b,V.closed,a0e,a0u]) ?_
  by_cases c:s.is=2
  · by_cases d:(16:Int) < r.length
    · simp (maxSteps:=1000000) (disch:=omega) only [rg,gD,simprocAttr,c214,sttV,a0q,c,d]
      (refine a0f rfl ?_ ?_<;>simp [pack,lo,loL,V.closed,a0b,a0a,a2o,c,sttV,seV,zS,show 16 < r.length by omega])
    · simp (maxSteps:=1000000) (disch:=omega) only [rg,gD,simprocAttr,c214,sttV,a0q,c,d]
      (refine a0f rfl ?_ ?_<;>simp [pack,lo,loL,V.closed,a0b,a0a,a2o,c,sttV,seV,show ¬ 16 < r.length by omega])
  · simp (maxSteps:=1000000) (disch:=omega) only [rg,gD,simprocAttr,c214,sttV,a0q,c]
    (refine a0f rfl ?_ ?_<;>simp [pack,lo,loL,V.closed,a0b,a0a,a2o,c,sttV,seV,zS])
theorem c9h (s:Stt) (r:Str):PCall Tryz.prog 167 [sttV s,.str r] (seV (a2o s r)):=by
  refine en167 (by simp) (by simp [a0b,V.closed,a0e]) ?_
  by_cases c:s.is=2
  · by_cases d:(16:Int) < r.length
    · simp (maxSteps:=1000000) (disch:=omega) only [rg,gD,simprocAttr,c167,sttV,c,d]
      (refine a0f rfl ?_ ?_<;>simp [pack,lo,loL,V.closed,a0b,a0a,a2o,c,sttV,seV,zS,show 16 < r.length by omega])
    · simp (maxSteps:=1000000) (disch:=omega) only [rg,gD,simprocAttr,c167,sttV,c,d]
      (refine a0f rfl ?_ ?_<;>simp [pack,lo,loL,V.closed,a0b,a0a,a2o,c,sttV,seV,show ¬ 16 < r.length by omega])
  · simp (maxSteps:=1000000) (disch:=omega) only [rg,gD,simprocAttr,c167,sttV,c]
    (refine a0f rfl ?_ ?_<;>simp [pack,lo,loL,V.closed,a0b,a0a,a2o,c,sttV,seV,zS])
theorem b1h (n:Int):PCall Tryz.prog 164 [.int .i64 n] (.int .i64 (a0r [n])):=by
  refine en164 (by simp) (by simp [a0b,V.closed]) ?_
  simp (maxSteps:=1000000) (disch:=omega) only [rg,gD,simprocAttr,c164]
  refine ⟨_,a9i n [] _ (by simp), ?_⟩
  simp (maxSteps:=1000000) (disch:=omega) only [rg,gD,simprocAttr]
  (refine a0f rfl ?_ ?_<;>simp [pack,lo,loL,V.closed,a0b,a0a])
theorem c7v (t:Task) (s:Stt) (now:Int):PCall Tryz.prog 212 [a0q t,sttV s,.int .i64 now] (seV (a2y t s now)):=by
  refine en212 (by simp) (by simp [a0b,V.closed,a0e,a0u]) ?_
  by_cases c:s.is=2
  · simp (maxSteps:=1000000) (disch:=omega) only [rg,gD,simprocAttr,c212,sttV,a0q,c]
    refine ⟨_,a8m now t.lease _, ?_⟩
    simp (maxSteps:=1000000) (disch:=omega) only [rg,gD,simprocAttr]
    (refine a0f rfl ?_ ?_<;>simp [pack,lo,loL,V.closed,a0b,a0a,a2y,c,sttV,seV])
  · simp (maxSteps:=1000000) (disch:=omega) only [rg,gD,simprocAttr,c212,sttV,a0q,c]
    (refine a0f rfl ?_ ?_<;>simp [pack,lo,loL,V.closed,a0b,a0a,a2y,c,sttV,seV,zS])
theorem c9b (t:Task) (s:Stt) (now:Int):PCall Tryz.prog 166 [a0q t,sttV s,.int .i64 now] (seV (a2y t s now)):=by
  refine en166 (by simp) (by simp [a0b,V.closed,a0e,a0u]) ?_
  by_cases c:s.is=2
  · simp (maxSteps:=1000000) (disch:=omega) only [rg,gD,simprocAttr,c166,sttV,a0q,c]
    refine ⟨_,a9i now [t.lease] _ (by simp), ?_⟩
    simp (maxSteps:=1000000) (disch:=omega) only [rg,gD,simprocAttr]
    (refine a0f rfl ?_ ?_<;>simp [pack,lo,loL,V.closed,a0b,a0a,a2y,c,sttV,seV])
  · simp (maxSteps:=1000000) (disch:=omega) only [rg,gD,simprocAttr,c166,sttV,a0q,c]
    (refine a0f rfl ?_ ?_<;>simp [pack,lo,loL,V.closed,a0b,a0a,a2y,c,sttV,seV,zS])
theorem b6w (t:Task) (s:Stt) (now:Int) (h:s.tried≤1000000):PCall Tryz.prog 216 [a0q t,sttV s,.int .i64 now] (seV (a2c t s now)):=by
  refine en216 (by simp) (by simp [a0b,V.closed,a0e,a0u]) ?_
  by_cases c:s.is=2
  · by_cases d:t.tries≤s.tried
    · simp (maxSteps:=1000000) (disch:=omega) only [rg,gD,simprocAttr,c216,sttV,a0q,c,d,ge_iff_le]
      (refine a0f rfl ?_ ?_<;>simp [pack,lo,loL,V.closed,a0b,a0a,a2c,c,d,sttV,seV])
    · simp (maxSteps:=1000000) (disch:=omega) only [rg,gD,simprocAttr,c216,sttV,a0q,c,d,ge_iff_le]
      refine ⟨_,c1f t.wait s.tried h, ?_⟩
      simp (maxSteps:=1000000) (disch:=omega) only [rg,gD,simprocAttr]
      refine ⟨_,a8m now _ _, ?_⟩
      simp (maxSteps:=1000000) (disch:=omega) only [rg,gD,simprocAttr]
      (refine a0f rfl ?_ ?_<;>simp [pack,lo,loL,V.closed,a0b,a0a,a2c,c,d,sttV,seV])
  · simp (maxSteps:=1000000) (disch:=omega) only [rg,gD,simprocAttr,c216,sttV,a0q,c]
    (refine a0f rfl ?_ ?_<;>simp [pack,lo,loL,V.closed,a0b,a0a,a2c,c,sttV,seV,zS])
theorem b9r (t:Task) (s:Stt) (now:Int):PCall Tryz.prog 168 [a0q t,sttV s,.int .i64 now] (seV (a2c t s now)):=by
  refine en168 (by simp) (by simp [a0b,V.closed,a0e,a0u]) ?_
  by_cases c:s.is=2
  · by_cases d:t.tries≤s.tried
    · simp (maxSteps:=1000000) (disch:=omega) only [rg,gD,simprocAttr,c168,sttV,a0q,c,d,ge_iff_le]
      (refine a0f rfl ?_ ?_<;>simp [pack,lo,loL,V.closed,a0b,a0a,a2c,c,d,sttV,seV])
    · simp (maxSteps:=1000000) (disch:=omega) only [rg,gD,simprocAttr,c168,sttV,a0q,c,d,ge_iff_le]
      refine ⟨_,c3s t.wait s.tried, ?_⟩
      simp (maxSteps:=1000000) (disch:=omega) only [rg,gD,simprocAttr]
      refine ⟨_,a9i now [_] _ (by simp), ?_⟩
      simp (maxSteps:=1000000) (disch:=omega) only [rg,gD,simprocAttr]
      (refine a0f rfl ?_ ?_<;>simp [pack,lo,loL,V.closed,a0b,a0a,a2c,c,d,sttV,seV])
  · simp (maxSteps:=1000000) (disch:=omega) only [rg,gD,simprocAttr,c168,sttV,a0q,c]
    (refine a0f rfl ?_ ?_<;>simp [pack,lo,loL,V.closed,a0b,a0a,a2c,c,sttV,seV,zS])
theorem b8k (t:Task) (s:Stt) (now:Int) (h:s.tried≤1000000):PCall Tryz.prog 219 [a0q t,sttV s,.int .i64 now] (sttV (a1b t s now)):=by
  refine en219 (by simp) (by simp [a0b,V.closed,a0e,a0u]) ?_
  have hf:=b6w t s s.due h
  have hw:=a8p now .nil
  unfold a0q sttV seV at hf
  by_cases c:s.is=2
  · by_cases d:a0r [now] < s.due
    · simp (maxSteps:=1000000) (disch:=omega) only [rg,gD,simprocAttr,c219,sttV,a0q,c]
      refine ⟨_,hw, ?_⟩
      simp (maxSteps:=1000000) (disch:=omega) only [rg,gD,simprocAttr,d]
      (refine a0f rfl ?_ ?_<;>simp [pack,lo,loL,V.closed,a0b,a0a,a1b,c,d,sttV])
    · simp (maxSteps:=1000000) (disch:=omega) only [rg,gD,simprocAttr,c219,sttV,a0q,c]
      refine ⟨_,hw, ?_⟩
      simp (maxSteps:=1000000) (disch:=omega) only [rg,gD,simprocAttr,d]
      rw [c] at hf
      refine ⟨_,hf, ?_⟩
      simp (maxSteps:=1000000) (disch:=omega) only [rg,gD,simprocAttr,sttV]
      (refine a0f rfl ?_ ?_<;>simp [pack,lo,loL,V.closed,a0b,a0a,a1b,c,d,sttV])
  · simp (maxSteps:=1000000) (disch:=omega) only [rg,gD,simprocAttr,c219,sttV,a0q,c]
    (refine a0f rfl ?_ ?_<;>simp [pack,lo,loL,V.closed,a0b,a0a,a1b,c,sttV])
theorem c2d (t:Task) (s:Stt) (now:Int):PCall Tryz.prog 110 [a0q t,sttV s,.int .i64 now] (sttV (a1b t s now)):=by
  refine en110 (by simp) (by simp [a0b,V.closed,a0e,a0u]) ?_
  have hf:=b9r t s s.due
  have hw:=b1h now
  unfold a0q sttV seV at hf
  by_cases c:s.is=2
  · by_cases d:s.due≤a0r [now]
    · simp (maxSteps:=1000000) (disch:=omega) only [rg,gD,simprocAttr,c110,sttV,a0q,c]
      refine ⟨_,hw, ?_⟩
      simp (maxSteps:=1000000) (disch:=omega) only [rg,gD,simprocAttr,d]
      rw [c] at hf
      refine ⟨_,hf, ?_⟩
      simp (maxSteps:=1000000) (disch:=omega) only [rg,gD,simprocAttr,sttV]
      (refine a0f rfl ?_ ?_<;>simp [pack,lo,loL,V.closed,a0b,a0a,a1b,c,show ¬ a0r [now] < s.due by omega,sttV])
    · simp (maxSteps:=1000000) (disch:=omega) only [rg,gD,simprocAttr,c110,sttV,a0q,c]
      refine ⟨_,hw, ?_⟩
      simp (maxSteps:=1000000) (disch:=omega) only [rg,gD,simprocAttr,d]
      (refine a0f rfl ?_ ?_<;>simp [pack,lo,loL,V.closed,a0b,a0a,a1b,c,show a0r [now] < s.due by omega,sttV])
  · simp (maxSteps:=1000000) (disch:=omega) only [rg,gD,simprocAttr,c110,sttV,a0q,c]
    (refine a0f rfl ?_ ?_<;>simp [pack,lo,loL,V.closed,a0b,a0a,a1b,c,sttV])
theorem c1s (t:Task) (s:Stt) (now token:Int) (h:-1000000≤s.tried∧s.tried≤1000000):PCall Tryz.prog 205 [a0q t,sttV s,.int .i64 now,.int .i64 token] (seV (a1z t s now token)):=by
  refine en205 (by simp) (by simp [a0b,V.closed,a0e,a0u]) ?_
  have hw:=a8p now .nil
  by_cases c1:token < 1
  · simp (maxSteps:=1000000) (disch:=omega) only [rg,gD,simprocAttr,c205,sttV,a0q,c1]
    (refine a0f rfl ?_ ?_<;>simp [pack,lo,loL,V.closed,a0b,a0a,a1z,c1,sttV,seV,zS])
  by_cases c2:1099511627776 < token
  · simp (maxSteps:=1000000) (disch:=omega) only [rg,gD,simprocAttr,c205,sttV,a0q,c1,c2]
    (refine a0f rfl ?_ ?_<;>simp [pack,lo,loL,V.closed,a0b,a0a,a1z,c1,c2,MT,sttV,seV,zS])
  by_cases c:s.is=1
  · by_cases d:a0r [now] < s.due
    · simp (maxSteps:=1000000) (disch:=omega) only [rg,gD,simprocAttr,c205,sttV,a0q,c1,c2,c]
      refine ⟨_,hw, ?_⟩
      simp (maxSteps:=1000000) (disch:=omega) only [rg,gD,simprocAttr,d]
      (refine a0f rfl ?_ ?_<;>simp [pack,lo,loL,V.closed,a0b,a0a,a1z,c1,c2,c,d,MT,sttV,seV,zS])
    · simp (maxSteps:=1000000) (disch:=omega) only [rg,gD,simprocAttr,c205,sttV,a0q,c1,c2,c]
      refine ⟨_,hw, ?_⟩
      simp (maxSteps:=1000000) (disch:=omega) only [rg,gD,simprocAttr,d]
      refine ⟨_,a8m now t.lease _, ?_⟩
      simp (maxSteps:=1000000) (disch:=omega) only [rg,gD,simprocAttr]
      (refine a0f rfl ?_ ?_<;>simp [pack,lo,loL,V.closed,a0b,a0a,a1z,c1,c2,c,d,MT,sttV,seV,zS])
  · simp (maxSteps:=1000000) (disch:=omega) only [rg,gD,simprocAttr,c205,sttV,a0q,c1,c2,c]
    (refine a0f rfl ?_ ?_<;>simp [pack,lo,loL,V.closed,a0b,a0a,a1z,c1,c2,c,MT,sttV,seV,zS])
theorem c7t (t:Task) (s:Stt) (now token:Int) (h:-1000000≤s.tried∧s.tried≤1000000):PCall Tryz.prog 165 [a0q t,sttV s,.int .i64 now,.int .i64 token] (seV (a1z t s now token)):=by
  refine en165 (by simp) (by simp [a0b,V.closed,a0e,a0u]) ?_
  have hw:=b1h now
  by_cases c1:token < 1
  · simp (maxSteps:=1000000) (disch:=omega) only [rg,gD,simprocAttr,c165,sttV,a0q,c1]
    (refine a0f rfl ?_ ?_<;>simp [pack,lo,loL,V.closed,a0b,a0a,a1z,c1,sttV,seV,zS])
  by_cases c2:1099511627776 < token
  · simp (maxSteps:=1000000) (disch:=omega) only [rg,gD,simprocAttr,c165,sttV,a0q,c1,c2]
    (refine a0f rfl ?_ ?_<;>simp [pack,lo,loL,V.closed,a0b,a0a,a1z,c1,c2,MT,sttV,seV,zS])
  by_cases c:s.is=1
  · by_cases d:a0r [now] < s.due
    · simp (maxSteps:=1000000) (disch:=omega) only [rg,gD,simprocAttr,c165,sttV,a0q,c1,c2,c]
      refine ⟨_,hw, ?_⟩
      simp (maxSteps:=1000000) (disch:=omega) only [rg,gD,simprocAttr,d]
      (refine a0f rfl ?_ ?_<;>simp [pack,lo,loL,V.closed,a0b,a0a,a1z,c1,c2,c,d,MT,sttV,seV,zS])
    · simp (maxSteps:=1000000) (disch:=omega) only [rg,gD,simprocAttr,c165,sttV,a0q,c1,c2,c]
      refine ⟨_,hw, ?_⟩
      simp (maxSteps:=1000000) (disch:=omega) only [rg,gD,simprocAttr,d]
      refine ⟨_,a9i now [t.lease] _ (by simp), ?_⟩
      simp (maxSteps:=1000000) (disch:=omega) only [rg,gD,simprocAttr]
      (refine a0f rfl ?_ ?_<;>simp [pack,lo,loL,V.closed,a0b,a0a,a1z,c1,c2,c,d,MT,sttV,seV,zS])
  · simp (maxSteps:=1000000) (disch:=omega) only [rg,gD,simprocAttr,c165,sttV,a0q,c1,c2,c]
    (refine a0f rfl ?_ ?_<;>simp [pack,lo,loL,V.closed,a0b,a0a,a1z,c1,c2,c,MT,sttV,seV,zS])
theorem a5e (s:Stt):a2g s=true↔(0≤s.is∧s.is≤5∧0≤s.tried∧s.tried≤8∧0≤s.due∧s.due≤1099511627776)∧(0≤s.token∧s.token≤1099511627776∧(0 < s.token↔s.is=2)∧s.result.length≤16∧(s.result=[]∨s.is=3)):=by
  simp only [a2g,a3z,Bool.and_eq_true,decide_eq_true_eq]
theorem a2q {t:Task} {s:Stt} (h:¬ a2e t s):a1l t s=false:=by simp [a1l,h]
theorem a3f {t:Task} {s:Stt} (hs:a2g s=true) (h:a2e t s):a1l t s=true:=by simp [a1l,h,hs]
theorem c2h (t:Task) (s:Stt) (hs:s.result.length≤4611686018427387904):PCall Tryz.prog 126 [a0q t,sttV s] (.bool (a1l t s)):=by
  refine en126 (by simp) (by simp [a0b,V.closed,a0e,a0u]) ?_
  have h0:=b8u s hs
  by_cases c:a2g s=true
  · rw [c] at h0
    have k:=(a5e s).1 c
    unfold sttV at h0
    by_cases d:t.tries < s.tried
    · simp (maxSteps:=1000000) (disch:=omega) only [rg,gD,simprocAttr,c126,sttV,a0q]
      refine ⟨_,h0, ?_⟩
      simp (maxSteps:=1000000) (disch:=omega) only [rg,gD,simprocAttr,d]
      (refine a0f rfl ?_ ?_<;>simp [pack,lo,loL,V.closed,a0b,a0a,a2q (t:=t) (s:=s) (fun h => by have:=h.1; omega)])
    by_cases c0:s.is=0
    · have r0:s.result=[]:=by rcases k.2.2.2.2.2 with h | h; exact h; omega
      have t0:s.token=0:=by have:=k.2.2.2.1; omega
      have hq:eqF [0,0,0,0,1] [V.int .i64 0,V.int .i64 s.tried,V.int .i64 s.due,V.int .i64 s.token,V.str s.result] [V.int .i64 0,V.int .i64 0,V.int .i64 0,V.int .i64 0,V.str []]=some (decide (s.tried=0∧s.due=0)):=by
        simp [eqF,r0,t0]
      simp (maxSteps:=1000000) (disch:=omega) only [rg,gD,simprocAttr,c126,sttV,a0q]
      refine ⟨_,h0, ?_⟩
      simp (maxSteps:=1000000) (disch:=omega) only [rg,gD,simprocAttr,d,c0,hq]
      (refine a0f rfl ?_ ?_<;>simp [pack,lo,loL,V.closed,a0b,a0a,show a1l t s=decide (s.tried=0∧s.due=0) by simp [a1l,c,a2e,c0]; omega])
    by_cases c1:s.is=1
    · simp (maxSteps:=1000000) (disch:=omega) only [rg,gD,simprocAttr,c126,sttV,a0q]
      refine ⟨_,h0, ?_⟩
      simp (maxSteps:=1000000) (disch:=omega) only [rg,gD,simprocAttr,d,c0,c1]
      (refine a0f rfl ?_ ?_<;>simp [pack,lo,loL,V.closed,a0b,a0a,show a1l t s=decide (s.tried < t.tries) by simp [a1l,c,a2e,c1]; omega])
    by_cases c2:s.is=2
    · simp (maxSteps:=1000000) (disch:=omega) only [rg,gD,simprocAttr,c126,sttV,a0q]
      refine ⟨_,h0, ?_⟩
      simp (maxSteps:=1000000) (disch:=omega) only [rg,gD,simprocAttr,d,c0,c1,c2,ge_iff_le]
      (refine a0f rfl ?_ ?_<;>simp [pack,lo,loL,V.closed,a0b,a0a,show a1l t s=decide (1≤s.tried) by simp [a1l,c,a2e,c2]; omega])
    by_cases c4:s.is=4
    · by_cases e:s.tried=t.tries
      · simp (maxSteps:=1000000) (disch:=omega) only [rg,gD,simprocAttr,c126,sttV,a0q]
        refine ⟨_,h0, ?_⟩
        simp (maxSteps:=1000000) (disch:=omega) only [rg,gD,simprocAttr,d,c0,c1,c2,c4,e,Int.lt_irrefl,ge_iff_le]
        (refine a0f rfl ?_ ?_<;>simp [pack,lo,loL,V.closed,a0b,a0a,show a1l t s=decide (s.due=0) by simp [a1l,c,a2e,c4,e]])
      · simp (maxSteps:=1000000) (disch:=omega) only [rg,gD,simprocAttr,c126,sttV,a0q]
        refine ⟨_,h0, ?_⟩
        simp (maxSteps:=1000000) (disch:=omega) only [rg,gD,simprocAttr,d,c0,c1,c2,c4,e,ge_iff_le]
        (refine a0f rfl ?_ ?_<;>simp [pack,lo,loL,V.closed,a0b,a0a,show a1l t s=false by simp [a1l,c,a2e,c4,e]])
    by_cases c5:s.is=5
    · simp (maxSteps:=1000000) (disch:=omega) only [rg,gD,simprocAttr,c126,sttV,a0q]
      refine ⟨_,h0, ?_⟩
      simp (maxSteps:=1000000) (disch:=omega) only [rg,gD,simprocAttr,d,c0,c1,c2,c4,c5,ge_iff_le]
      (refine a0f rfl ?_ ?_<;>simp [pack,lo,loL,V.closed,a0b,a0a,show a1l t s=decide (s.due=0) by simp [a1l,c,a2e,c5]; omega])
    have c3:s.is=3:=by omega
    by_cases e:1≤s.tried
    · simp (maxSteps:=1000000) (disch:=omega) only [rg,gD,simprocAttr,c126,sttV,a0q]
      refine ⟨_,h0, ?_⟩
      simp (maxSteps:=1000000) (disch:=omega) only [rg,gD,simprocAttr,d,c0,c1,c2,c4,c5,e,ge_iff_le]
      (refine a0f rfl ?_ ?_<;>simp [pack,lo,loL,V.closed,a0b,a0a,show a1l t s=decide (s.due=0) by simp [a1l,c,a2e,c3,e]; omega])
    · simp (maxSteps:=1000000) (disch:=omega) only [rg,gD,simprocAttr,c126,sttV,a0q]
      refine ⟨_,h0, ?_⟩
      simp (maxSteps:=1000000) (disch:=omega) only [rg,gD,simprocAttr,d,c0,c1,c2,c4,c5,e,ge_iff_le]
      (refine a0f rfl ?_ ?_<;>simp [pack,lo,loL,V.closed,a0b,a0a,show a1l t s=false by simp [a1l,c,a2e,c3]; omega])
  · rw [show a2g s=false by simpa using c] at h0
    unfold sttV at h0
    simp (maxSteps:=1000000) (disch:=omega) only [rg,gD,simprocAttr,c126,sttV,a0q]
    refine ⟨_,h0, ?_⟩
    simp (maxSteps:=1000000) (disch:=omega) only [rg,gD,simprocAttr]
    (refine a0f rfl ?_ ?_<;>simp [pack,lo,loL,V.closed,a0b,a0a,show a1l t s=false by simp [a1l,c]])
theorem c1y (t:Task) (s:Stt) (hs:s.result.length≤4611686018427387904):PCall Tryz.prog 133 [a0q t,sttV s] (.bool (a1l t s)):=by
  refine en133 (by simp) (by simp [a0b,V.closed,a0e,a0u]) ?_
  have h0:=c2f s hs
  by_cases c:a2g s=true
  · rw [c] at h0
    have k:=(a5e s).1 c
    unfold sttV at h0
    by_cases d:t.tries < s.tried
    · simp (maxSteps:=1000000) (disch:=omega) only [rg,gD,simprocAttr,c133,sttV,a0q]
      refine ⟨_,h0, ?_⟩
      simp (maxSteps:=1000000) (disch:=omega) only [rg,gD,simprocAttr,d]
      (refine a0f rfl ?_ ?_<;>simp [pack,lo,loL,V.closed,a0b,a0a,a2q (t:=t) (s:=s) (fun h => by have:=h.1; omega)])
    by_cases c0:s.is=0
    · by_cases e1:s.tried=0
      · by_cases e2:s.due=0
        · simp (maxSteps:=1000000) (disch:=omega) only [rg,gD,simprocAttr,c133,sttV,a0q]
          refine ⟨_,h0, ?_⟩
          simp (maxSteps:=1000000) (disch:=omega) only [rg,gD,simprocAttr,d,c0,e1,e2,show ¬ t.tries < 0 by omega,ge_iff_le]
          (refine a0f rfl ?_ ?_<;>simp [pack,lo,loL,V.closed,a0b,a0a,a3f c (t:=t) ⟨by omega,.inl ⟨c0,e1,e2⟩⟩])
        · simp (maxSteps:=1000000) (disch:=omega) only [rg,gD,simprocAttr,c133,sttV,a0q]
          refine ⟨_,h0, ?_⟩
          simp (maxSteps:=1000000) (disch:=omega) only [rg,gD,simprocAttr,d,c0,e1,e2,show ¬ t.tries < 0 by omega,ge_iff_le]
          (refine a0f rfl ?_ ?_<;>simp [pack,lo,loL,V.closed,a0b,a0a,a2q (t:=t) (s:=s) (fun h => by unfold a2e at h; omega)])
      · simp (maxSteps:=1000000) (disch:=omega) only [rg,gD,simprocAttr,c133,sttV,a0q]
        refine ⟨_,h0, ?_⟩
        simp (maxSteps:=1000000) (disch:=omega) only [rg,gD,simprocAttr,d,c0,e1,ge_iff_le]
        (refine a0f rfl ?_ ?_<;>simp [pack,lo,loL,V.closed,a0b,a0a,a2q (t:=t) (s:=s) (fun h => by unfold a2e at h; omega)])
    by_cases c1:s.is=1
    · by_cases e1:t.tries≤s.tried
      · simp (maxSteps:=1000000) (disch:=omega) only [rg,gD,simprocAttr,c133,sttV,a0q]
        refine ⟨_,h0, ?_⟩
        simp (maxSteps:=1000000) (disch:=omega) only [rg,gD,simprocAttr,d,c0,c1,e1,ge_iff_le]
        (refine a0f rfl ?_ ?_<;>simp [pack,lo,loL,V.closed,a0b,a0a,a2q (t:=t) (s:=s) (fun h => by unfold a2e at h; omega)])
      · simp (maxSteps:=1000000) (disch:=omega) only [rg,gD,simprocAttr,c133,sttV,a0q]
        refine ⟨_,h0, ?_⟩
        by_cases e2:s.due=0
        · simp (maxSteps:=1000000) (disch:=omega) only [rg,gD,simprocAttr,d,c0,c1,e1,e2,ge_iff_le]
          (refine a0f rfl ?_ ?_<;>simp [pack,lo,loL,V.closed,a0b,a0a,a3f c (t:=t) ⟨by omega,.inr (.inl ⟨c1,by omega⟩)⟩])
        · simp (maxSteps:=1000000) (disch:=omega) only [rg,gD,simprocAttr,d,c0,c1,e1,e2,ge_iff_le]
          (refine a0f rfl ?_ ?_<;>simp [pack,lo,loL,V.closed,a0b,a0a,a3f c (t:=t) ⟨by omega,.inr (.inl ⟨c1,by omega⟩)⟩])
    by_cases c2:s.is=2
    · by_cases e1:s.tried < 1
      · simp (maxSteps:=1000000) (disch:=omega) only [rg,gD,simprocAttr,c133,sttV,a0q]
        refine ⟨_,h0, ?_⟩
        simp (maxSteps:=1000000) (disch:=omega) only [rg,gD,simprocAttr,d,c0,c1,c2,e1,ge_iff_le]
        (refine a0f rfl ?_ ?_<;>simp [pack,lo,loL,V.closed,a0b,a0a,a2q (t:=t) (s:=s) (fun h => by unfold a2e at h; omega)])
      · simp (maxSteps:=1000000) (disch:=omega) only [rg,gD,simprocAttr,c133,sttV,a0q]
        refine ⟨_,h0, ?_⟩
        by_cases e2:s.due=0
        · simp (maxSteps:=1000000) (disch:=omega) only [rg,gD,simprocAttr,d,c0,c1,c2,e1,e2,ge_iff_le]
          (refine a0f rfl ?_ ?_<;>simp [pack,lo,loL,V.closed,a0b,a0a,a3f c (t:=t) ⟨by omega,.inr (.inr (.inl ⟨c2,by omega⟩))⟩])
        · simp (maxSteps:=1000000) (disch:=omega) only [rg,gD,simprocAttr,d,c0,c1,c2,e1,e2,ge_iff_le]
          (refine a0f rfl ?_ ?_<;>simp [pack,lo,loL,V.closed,a0b,a0a,a3f c (t:=t) ⟨by omega,.inr (.inr (.inl ⟨c2,by omega⟩))⟩])
    by_cases c3:s.is=3
    · by_cases e1:s.tried < 1
      · simp (maxSteps:=1000000) (disch:=omega) only [rg,gD,simprocAttr,c133,sttV,a0q]
        refine ⟨_,h0, ?_⟩
        simp (maxSteps:=1000000) (disch:=omega) only [rg,gD,simprocAttr,d,c0,c1,c2,c3,e1,ge_iff_le]
        (refine a0f rfl ?_ ?_<;>simp [pack,lo,loL,V.closed,a0b,a0a,a2q (t:=t) (s:=s) (fun h => by unfold a2e at h; omega)])
      · simp (maxSteps:=1000000) (disch:=omega) only [rg,gD,simprocAttr,c133,sttV,a0q]
        refine ⟨_,h0, ?_⟩
        simp (maxSteps:=1000000) (disch:=omega) only [rg,gD,simprocAttr,d,c0,c1,c2,c3,e1,ge_iff_le]
        by_cases e2:s.due=0
        · simp (maxSteps:=1000000) (disch:=omega) only [rg,gD,simprocAttr,d,c0,c1,c2,c3,e1,e2,ge_iff_le]
          (refine a0f rfl ?_ ?_<;>simp [pack,lo,loL,V.closed,a0b,a0a,a3f c (t:=t) ⟨by omega,.inr (.inr (.inr (.inl ⟨c3,by omega,e2⟩)))⟩])
        · simp (maxSteps:=1000000) (disch:=omega) only [rg,gD,simprocAttr,d,c0,c1,c2,c3,e1,e2,ge_iff_le]
          (refine a0f rfl ?_ ?_<;>simp [pack,lo,loL,V.closed,a0b,a0a,a2q (t:=t) (s:=s) (fun h => by unfold a2e at h; omega)])
    by_cases c4:s.is=4
    · by_cases e1:s.tried=t.tries
      · by_cases e2:s.due=0
        · simp (maxSteps:=1000000) (disch:=omega) only [rg,gD,simprocAttr,c133,sttV,a0q]
          refine ⟨_,h0, ?_⟩
          simp (maxSteps:=1000000) (disch:=omega) only [rg,gD,simprocAttr,d,c0,c1,c2,c3,c4,e1,e2,Int.lt_irrefl,ge_iff_le]
          (refine a0f rfl ?_ ?_<;>simp [pack,lo,loL,V.closed,a0b,a0a,a3f c (t:=t) ⟨by omega,.inr (.inr (.inr (.inr (.inl ⟨c4,e1,e2⟩))))⟩])
        · simp (maxSteps:=1000000) (disch:=omega) only [rg,gD,simprocAttr,c133,sttV,a0q]
          refine ⟨_,h0, ?_⟩
          simp (maxSteps:=1000000) (disch:=omega) only [rg,gD,simprocAttr,d,c0,c1,c2,c3,c4,e1,e2,Int.lt_irrefl,ge_iff_le]
          (refine a0f rfl ?_ ?_<;>simp [pack,lo,loL,V.closed,a0b,a0a,a2q (t:=t) (s:=s) (fun h => by unfold a2e at h; omega)])
      · simp (maxSteps:=1000000) (disch:=omega) only [rg,gD,simprocAttr,c133,sttV,a0q]
        refine ⟨_,h0, ?_⟩
        simp (maxSteps:=1000000) (disch:=omega) only [rg,gD,simprocAttr,d,c0,c1,c2,c3,c4,e1,ge_iff_le]
        (refine a0f rfl ?_ ?_<;>simp [pack,lo,loL,V.closed,a0b,a0a,a2q (t:=t) (s:=s) (fun h => by unfold a2e at h; omega)])
    have c5:s.is=5:=by omega
    by_cases e2:s.due=0
    · simp (maxSteps:=1000000) (disch:=omega) only [rg,gD,simprocAttr,c133,sttV,a0q]
      refine ⟨_,h0, ?_⟩
      simp (maxSteps:=1000000) (disch:=omega) only [rg,gD,simprocAttr,d,c5,e2,ge_iff_le]
      (refine a0f rfl ?_ ?_<;>simp [pack,lo,loL,V.closed,a0b,a0a,a3f c (t:=t) ⟨by omega,.inr (.inr (.inr (.inr (.inr ⟨c5,e2⟩))))⟩])
    · simp (maxSteps:=1000000) (disch:=omega) only [rg,gD,simprocAttr,c133,sttV,a0q]
      refine ⟨_,h0, ?_⟩
      simp (maxSteps:=1000000) (disch:=omega) only [rg,gD,simprocAttr,d,c5,e2,ge_iff_le]
      (refine a0f rfl ?_ ?_<;>simp [pack,lo,loL,V.closed,a0b,a0a,a2q (t:=t) (s:=s) (fun h => by unfold a2e at h; omega)])
  · rw [show a2g s=false by simpa using c] at h0
    unfold sttV at h0
    simp (maxSteps:=1000000) (disch:=omega) only [rg,gD,simprocAttr,c133,sttV,a0q]
    refine ⟨_,h0, ?_⟩
    simp (maxSteps:=1000000) (disch:=omega) only [rg,gD,simprocAttr]
    (refine a0f rfl ?_ ?_<;>simp [pack,lo,loL,V.closed,a0b,a0a,show a1l t s=false by simp [a1l,c]])
def idxS (x:Int):Nat→List Int→Int
  | _,[] => -1
  | i,y::l => if x=y then (i:Int) else idxS x (i+1) l
theorem c0j (x:Int):∀ (l:List Int) (i:Nat),0≤idxS x i l↔x∈l
  | [],i => by simp [idxS]
  | y::l,i => by
    simp only [idxS,List.mem_cons]
    split
    · rename_i h; simp [h]
    · rename_i h; rw [c0j x l (i+1)]; simp [h]
theorem c9r (l:List Int) (st:St) (x:Int) (hl:l.length≤1000000):PCall Tryz.prog 224 [.fsl st 1 (vI l),.int .i64 x] (.int .i64 (idxS x 0 l)):=by
  refine en224 (by simp) (by simp [a0b,V.closed,a2s]) ?_
  simp (maxSteps:=1000000) (disch:=omega) only [rg,gD,simprocAttr,c224,a2m]
  refine b1z l.length (fun i => idxS x 0 l=idxS x i (l.drop i)) (fun i => [(0,.fsl st 1 (vI l)),(1,.int .i64 x),(7,.int .i64 (l.length:Int)),(8,.int .i64 (i:Int))]) rfl rfl ?_
  rintro T i hi hp hN hX hR
  by_cases i1:i < l.length
  · rw [List.drop_eq_getElem_cons i1] at hp
    simp only [idxS] at hp
    by_cases e:x=l[i]
    · rw [if_pos e] at hp
      simp (maxSteps:=1000000) (disch:=omega) only [rg,gD,simprocAttr,show (i:Int) < l.length by omega,a3b i1,decide_eq_true e]
      refine hR _ _ ?_
      (refine a0f rfl ?_ ?_<;>simp [pack,lo,loL,V.closed,a0b,a0a,hp])
    · rw [if_neg e] at hp
      simp (maxSteps:=1000000) (disch:=omega) only [rg,gD,simprocAttr,show (i:Int) < l.length by omega,a3b i1,decide_eq_false e]
      exact hN _ i1 hp rfl
  · obtain rfl:i=l.length:=by omega
    simp (maxSteps:=1000000) (disch:=omega) only [rg,gD,simprocAttr,Int.lt_irrefl]
    refine hX _ _ _ ?_
    simp (maxSteps:=1000000) (disch:=omega) only [rg,gD,simprocAttr]
    refine a0s ?_
    simp (maxSteps:=1000000) (disch:=omega) only [rg,gD,simprocAttr]
    rw [List.drop_length] at hp
    (refine a0f rfl ?_ ?_<;>simp [pack,lo,loL,V.closed,a0b,a0a,hp,idxS])
theorem b7t (l:List Int) (st:St) (x:Int) (hl:l.length≤1000000):PCall Tryz.prog 177 [.fsl st 1 (vI l),.int .i64 x] (.bool (decide (x∈l))):=by
  have h1:=c9r l st x hl
  have h2:=c0j x l 0
  refine en177 (by simp) (by simp [a0b,V.closed,a2s]) ?_
  simp (maxSteps:=1000000) (disch:=omega) only [rg,gD,simprocAttr,c177]
  refine ⟨_,h1, ?_⟩
  simp (maxSteps:=1000000) (disch:=omega) only [rg,gD,simprocAttr,ge_iff_le]
  (refine a0f rfl ?_ ?_<;>simp [pack,lo,loL,V.closed,a0b,a0a,h2])
theorem a8v (r:Rn):PCall Tryz.prog 125 [rnV r] (.fn 174 [] [.fptr (rnV r) 0]):=by
  refine en125 (by simp) (by simp [a0b,a0g]) ?_
  simp (maxSteps:=1000000) (disch:=omega) only [rg,gD,simprocAttr,c125]
  refine ⟨⟨rfl,rfl⟩, ?_⟩
  refine ⟨.inr rfl,_,rfl,.fn 174 [] [.fptr (rnV r) 0], ?_,.inl rfl⟩
  simp [pack,b3w,snap,c9t,mapO,V.closed,a0b,a0g,upd]
def cntS (ks:List Int):List Stt→Nat
  | [] => 0
  | s::l => (if s.is∈ks then 1 else 0)+cntS ks l
theorem c0l (ks:List Int):∀ (l l':List Stt),cntS ks (l++l')=cntS ks l+cntS ks l'
  | [],l' => by simp [cntS]
  | s::l,l' => by simp only [List.cons_append,cntS,c0l ks l l']; omega
theorem b7r (ks:List Int):∀ (l:List Stt),cntS ks l≤l.length
  | [] => Nat.le_refl _
  | s::l => by have:=b7r ks l; simp only [cntS,List.length_cons]; split<;>omega
theorem a4z (r:Rn) (ks:List Int) (st:St) (hk0:ks.length≤1000000) (hr:r.states.length≤1000000):PCall Tryz.prog 128 [rnV r,.fsl st 1 (vI ks)] (.int .i64 (cntS ks r.states:Nat)):=by
  refine en128 (by simp) (by simp [a0b,V.closed,a2s,a0g]) ?_
  have he:=a8v r
  have hsq:=a8w r (by omega)
  unfold rnV a0h at he
  simp (maxSteps:=1000000) (disch:=omega) only [rg,gD,simprocAttr,c128,rnV,a0h]
  refine ⟨_,he, ?_⟩
  simp (maxSteps:=1000000) (disch:=omega) only [rg,gD,simprocAttr]
  refine x_rf (a8g 0 (mv sttV r.states)) (fun k H => 3≤H.n∧H.m 1=some (.arr 1 [V.fsl st 1 (vI ks)])∧H.m 2=some (.arr 1 [V.int .i64 ((cntS ks (r.states.take k):Nat):Int)])) rfl (by simp [a0b,V.closed,a0o,a0a,a0e]) hsq b1n ⟨Nat.le_refl 3,by simp [upd],by simp [upd,cntS]⟩ ?_ ?_
  · rintro T k el ⟨n,m⟩ ⟨hn,e1,e2⟩ hel hN hX hR
    simp only at hn e1 e2
    rw [a7d,Nat.zero_add] at hel
    have hk:k < r.states.length:=by
      rcases Nat.lt_or_ge k r.states.length with h | h
      · exact h
      · rw [List.getElem?_eq_none (by rw [a0k]; exact h)] at hel; cases hel
    rw [a0m hk] at hel
    cases hel
    have hc:=b7t ks st r.states[k].is hk0
    have hstep:cntS ks (r.states.take (k+1))=cntS ks (r.states.take k)+if r.states[k].is∈ks then 1 else 0:=by
      rw [List.take_succ_eq_append_getElem hk,c0l]; simp [cntS]
    have hle:=b7r ks (r.states.take k)
    have hle2:(r.states.take k).length≤1000000:=by rw [List.length_take]; omega
    simp (maxSteps:=1000000) (disch:=omega) only [rg,gD,simprocAttr,b0q,sttV,e1,e2]
    refine ⟨_,hc, ?_⟩
    by_cases hin:r.states[k].is∈ks
    · rw [if_pos hin] at hstep
      simp (maxSteps:=1000000) (disch:=omega) only [rg,gD,simprocAttr,decide_eq_true hin,e2]
      refine hN _ _ ⟨by show 3≤n+1; omega,(by simp (disch:=omega) only [a0d,a0c,wo_0,wo_1,wo_2,e1]), ?_⟩
      rw [hstep]; simp [upd]
    · rw [if_neg hin] at hstep
      simp (maxSteps:=1000000) (disch:=omega) only [rg,gD,simprocAttr,decide_eq_false hin]
      refine hN _ _ ⟨by show 3≤n+1; omega,(by simp (disch:=omega) only [a0d,a0c,wo_0,wo_1,wo_2,e1]), ?_⟩
      rw [show cntS ks (r.states.take (k+1))=cntS ks (r.states.take k) by omega]; exact (by simp (disch:=omega) only [a0d,a0c,wo_0,wo_1,wo_2,e2])
  · rintro ⟨n,m⟩ ⟨hn,e1,e2⟩
    simp only at hn e1 e2
    rw [a6q,a0k,List.take_length] at e2
    simp (maxSteps:=1000000) (disch:=omega) only [rg,gD,simprocAttr,e2]
    (refine a0f rfl ?_ ?_<;>simp [pack,lo,loL,V.closed,a0b,a0a])
def b2r (l:List Stt):Int:=if cntS [3] l=l.length then 1 else if 0 < cntS [4] l then 2 else if cntS [0,1,2] l=0 then 3 else 0
theorem c9g (r:Rn) (hr:r.states.length≤1000000):PCall Tryz.prog 124 [rnV r] (.int .i64 (b2r r.states)):=by
  refine en124 (by simp) (by simp [a0b,a0g]) ?_
  have h1:PCall Tryz.prog 128 [rnV r,.fsl .full 1 [.int .i64 3]] _:=a4z r [3] .full (by simp) hr
  have h2:PCall Tryz.prog 128 [rnV r,.fsl .full 1 [.int .i64 4]] _:=a4z r [4] .full (by simp) hr
  have h3:PCall Tryz.prog 128 [rnV r,.fsl .full 1 [.int .i64 0,.int .i64 1,.int .i64 2]] _:=a4z r [0,1,2] .full (by simp) hr
  unfold rnV a0h at h1 h2 h3
  simp (maxSteps:=1000000) (disch:=omega) only [rg,gD,simprocAttr,c124,rnV,a0h]
  refine ⟨_,h1, ?_⟩
  by_cases c1:cntS [3] r.states=r.states.length
  · simp (maxSteps:=1000000) (disch:=omega) only [rg,gD,simprocAttr,show ((cntS [3] r.states:Nat):Int)=r.states.length by omega]
    (refine a0f rfl ?_ ?_<;>simp [pack,lo,loL,V.closed,a0b,a0a,b2r,c1])
  simp (maxSteps:=1000000) (disch:=omega) only [rg,gD,simprocAttr,show ¬ ((cntS [3] r.states:Nat):Int)=r.states.length by omega]
  refine ⟨_,h2, ?_⟩
  by_cases c2:0 < cntS [4] r.states
  · simp (maxSteps:=1000000) (disch:=omega) only [rg,gD,simprocAttr,show (0:Int) < ((cntS [4] r.states:Nat):Int) by omega]
    (refine a0f rfl ?_ ?_<;>simp [pack,lo,loL,V.closed,a0b,a0a,b2r,c1,c2])
  simp (maxSteps:=1000000) (disch:=omega) only [rg,gD,simprocAttr,show ¬ (0:Int) < ((cntS [4] r.states:Nat):Int) by omega]
  refine ⟨_,h3, ?_⟩
  by_cases c3:cntS [0,1,2] r.states=0
  · simp (maxSteps:=1000000) (disch:=omega) only [rg,gD,simprocAttr,show ((cntS [0,1,2] r.states:Nat):Int)=0 by omega]
    (refine a0f rfl ?_ ?_<;>simp [pack,lo,loL,V.closed,a0b,a0a,b2r,c1,c2,c3])
  · simp (maxSteps:=1000000) (disch:=omega) only [rg,gD,simprocAttr,show ¬ ((cntS [0,1,2] r.states:Nat):Int)=0 by omega]
    (refine a0f rfl ?_ ?_<;>simp [pack,lo,loL,V.closed,a0b,a0a,b2r,c1,c2,c3])
def hasS (l:List Stt) (k:Int):Bool:=l.any fun s => decide (s.is=k)
theorem c5r (s:Stt) (l:List Stt) (k:Int):hasS (s::l) k=(decide (s.is=k) || hasS l k):=rfl
theorem b0e (r:Rn) (k:Int) (hr:r.states.length≤1000000):PCall Tryz.prog 170 [rnV r,.int .i64 k] (.bool (hasS r.states k)):=by
  refine en170 (by simp) (by simp [a0b,V.closed,a0g]) ?_
  simp (maxSteps:=1000000) (disch:=omega) only [rg,gD,simprocAttr,c170,rnV,a0h]
  refine x_it r.states.length (fun i σ H => 1≤H.n∧hasS r.states k=hasS (r.states.drop i) k∧σ=[(1,.int .i64 k),(8,.fsl .loose 5 (mv sttV r.states)),(9,.int .i64 (r.states.length:Int)),(10,.int .i64 (i:Int))]) ⟨Nat.le_refl 1,rfl,rfl⟩ ?_
  rintro T i σ ⟨n,m⟩ hi ⟨hn,hp,rfl⟩ hN hX hR
  simp only at hn
  by_cases i1:i < r.states.length
  · rw [List.drop_eq_getElem_cons i1,c5r] at hp
    by_cases e:r.states[i].is=k
    · rw [decide_eq_true e,Bool.true_or] at hp
      simp (maxSteps:=1000000) (disch:=omega) only [rg,gD,simprocAttr,show (i:Int) < r.states.length by omega,sttV,e]
      refine hR _ _ ?_
      (refine a0f rfl ?_ ?_<;>simp [pack,lo,loL,V.closed,a0b,a0a,hp])
    · rw [decide_eq_false e,Bool.false_or] at hp
      simp (maxSteps:=1000000) (disch:=omega) only [rg,gD,simprocAttr,show (i:Int) < r.states.length by omega,sttV,e]
      exact hN _ _ i1 ⟨by show 1≤n+1; omega,hp,rfl⟩
  · obtain rfl:i=r.states.length:=by omega
    simp (maxSteps:=1000000) (disch:=omega) only [rg,gD,simprocAttr,Int.lt_irrefl]
    refine hX _ _ _ ?_
    simp (maxSteps:=1000000) (disch:=omega) only [rg,gD,simprocAttr]
    refine a0s ?_
    simp (maxSteps:=1000000) (disch:=omega) only [rg,gD,simprocAttr]
    rw [List.drop_length] at hp
    have hz:hasS r.states k=false:=hp
    (refine a0f rfl ?_ ?_<;>simp [pack,lo,loL,V.closed,a0b,a0a,hz])
def a9z (l:List Stt):Bool:=hasS l 0 || hasS l 1 || hasS l 2
theorem c8z (r:Rn) (hr:r.states.length≤1000000):PCall Tryz.prog 178 [rnV r] (.bool (a9z r.states)):=by
  refine en178 (by simp) (by simp [a0b,a0g]) ?_
  have h0:=b0e r 0 hr
  have h1:=b0e r 1 hr
  have h2:=b0e r 2 hr
  unfold rnV a0h at h0 h1 h2
  simp (maxSteps:=1000000) (disch:=omega) only [rg,gD,simprocAttr,c178,rnV,a0h]
  refine ⟨_,h0, ?_⟩
  cases e0:hasS r.states 0 with
  | true =>
    simp (maxSteps:=1000000) (disch:=omega) only [rg,gD,simprocAttr,e0]
    (refine a0f rfl ?_ ?_<;>simp [pack,lo,loL,V.closed,a0b,a0a,a9z,e0])
  | false =>
    simp (maxSteps:=1000000) (disch:=omega) only [rg,gD,simprocAttr,e0]
    refine ⟨_,h1, ?_⟩
    cases e1:hasS r.states 1 with
    | true =>
      simp (maxSteps:=1000000) (disch:=omega) only [rg,gD,simprocAttr,e1]
      (refine a0f rfl ?_ ?_<;>simp [pack,lo,loL,V.closed,a0b,a0a,a9z,e0,e1])
    | false =>
      simp (maxSteps:=1000000) (disch:=omega) only [rg,gD,simprocAttr,e1]
      refine ⟨_,h2, ?_⟩
      simp (maxSteps:=1000000) (disch:=omega) only [rg,gD,simprocAttr]
      (refine a0f rfl ?_ ?_<;>simp [pack,lo,loL,V.closed,a0b,a0a,a9z,e0,e1])
def a6c (r:Rn):Bool :=
  if (!a9z r.states && !hasS r.states 4 && !hasS r.states 5)=true then decide (r.is=1)
  else if hasS r.states 4=true then decide (r.is=2) && !a9z r.states
  else if a9z r.states=false then decide (r.is=3)
  else decide (r.is=0) && !hasS r.states 5
theorem c8e (r:Rn) (hr:r.states.length≤1000000):PCall Tryz.prog 132 [rnV r] (.bool (a6c r)):=by
  refine en132 (by simp) (by simp [a0b,a0g]) ?_
  have h0:=c8z r hr
  have h4:=b0e r 4 hr
  have h5:=b0e r 5 hr
  unfold rnV a0h at h0 h4 h5
  have D2:(r.is=2)=True∨(r.is=2)=False:=by by_cases h:r.is=2<;>simp [h]
  have D0:(r.is=0)=True∨(r.is=0)=False:=by by_cases h:r.is=0<;>simp [h]
  cases e0:a9z r.states<;>cases e4:hasS r.states 4<;>cases e5:hasS r.states 5<;>rw [e0] at h0<;>rw [e4] at h4<;>rw [e5] at h5
  · -- open false,lost false,gone false
    simp (maxSteps:=1000000) (disch:=omega) only [rg,gD,simprocAttr,c132,rnV,a0h]
    refine ⟨_,h0, ?_⟩
    simp (maxSteps:=1000000) (disch:=omega) only [rg,gD,simprocAttr]
    refine ⟨_,h4, ?_⟩
    simp (maxSteps:=1000000) (disch:=omega) only [rg,gD,simprocAttr]
    refine ⟨_,h5, ?_⟩
    simp (maxSteps:=1000000) (disch:=omega) only [rg,gD,simprocAttr]
    (refine a0f rfl ?_ ?_<;>simp [pack,lo,loL,V.closed,a0b,a0a,a6c,e0,e4,e5])
  · -- open false,lost false,gone true
    simp (maxSteps:=1000000) (disch:=omega) only [rg,gD,simprocAttr,c132,rnV,a0h]
    refine ⟨_,h0, ?_⟩
    simp (maxSteps:=1000000) (disch:=omega) only [rg,gD,simprocAttr]
    refine ⟨_,h4, ?_⟩
    simp (maxSteps:=1000000) (disch:=omega) only [rg,gD,simprocAttr]
    refine ⟨_,h5, ?_⟩
    simp (maxSteps:=1000000) (disch:=omega) only [rg,gD,simprocAttr]
    refine ⟨_,h4, ?_⟩
    simp (maxSteps:=1000000) (disch:=omega) only [rg,gD,simprocAttr]
    refine ⟨_,h0, ?_⟩
    simp (maxSteps:=1000000) (disch:=omega) only [rg,gD,simprocAttr]
    (refine a0f rfl ?_ ?_<;>simp [pack,lo,loL,V.closed,a0b,a0a,a6c,e0,e4,e5])
  · -- open false,lost true,gone false
    simp (maxSteps:=1000000) (disch:=omega) only [rg,gD,simprocAttr,c132,rnV,a0h]
    refine ⟨_,h0, ?_⟩
    simp (maxSteps:=1000000) (disch:=omega) only [rg,gD,simprocAttr]
    refine ⟨_,h4, ?_⟩
    simp (maxSteps:=1000000) (disch:=omega) only [rg,gD,simprocAttr]
    refine ⟨_,h4, ?_⟩
    rcases D2 with d | d
    · simp (maxSteps:=1000000) (disch:=omega) only [rg,gD,simprocAttr,d]
      refine ⟨_,h0, ?_⟩
      simp (maxSteps:=1000000) (disch:=omega) only [rg,gD,simprocAttr]
      (refine a0f rfl ?_ ?_<;>simp [pack,lo,loL,V.closed,a0b,a0a,a6c,e0,e4,e5,d])
    · simp (maxSteps:=1000000) (disch:=omega) only [rg,gD,simprocAttr,d]
      (refine a0f rfl ?_ ?_<;>simp [pack,lo,loL,V.closed,a0b,a0a,a6c,e0,e4,e5,d])
  · -- open false,lost true,gone true
    simp (maxSteps:=1000000) (disch:=omega) only [rg,gD,simprocAttr,c132,rnV,a0h]
    refine ⟨_,h0, ?_⟩
    simp (maxSteps:=1000000) (disch:=omega) only [rg,gD,simprocAttr]
    refine ⟨_,h4, ?_⟩
    simp (maxSteps:=1000000) (disch:=omega) only [rg,gD,simprocAttr]
    refine ⟨_,h4, ?_⟩
    rcases D2 with d | d
    · simp (maxSteps:=1000000) (disch:=omega) only [rg,gD,simprocAttr,d]
      refine ⟨_,h0, ?_⟩
      simp (maxSteps:=1000000) (disch:=omega) only [rg,gD,simprocAttr]
      (refine a0f rfl ?_ ?_<;>simp [pack,lo,loL,V.closed,a0b,a0a,a6c,e0,e4,e5,d])
    · simp (maxSteps:=1000000) (disch:=omega) only [rg,gD,simprocAttr,d]
      (refine a0f rfl ?_ ?_<;>simp [pack,lo,loL,V.closed,a0b,a0a,a6c,e0,e4,e5,d])
  · -- open true,lost false,gone false
    simp (maxSteps:=1000000) (disch:=omega) only [rg,gD,simprocAttr,c132,rnV,a0h]
    refine ⟨_,h0, ?_⟩
    simp (maxSteps:=1000000) (disch:=omega) only [rg,gD,simprocAttr]
    refine ⟨_,h4, ?_⟩
    simp (maxSteps:=1000000) (disch:=omega) only [rg,gD,simprocAttr]
    refine ⟨_,h0, ?_⟩
    rcases D0 with d | d
    · simp (maxSteps:=1000000) (disch:=omega) only [rg,gD,simprocAttr,d]
      refine ⟨_,h5, ?_⟩
      simp (maxSteps:=1000000) (disch:=omega) only [rg,gD,simprocAttr]
      (refine a0f rfl ?_ ?_<;>simp [pack,lo,loL,V.closed,a0b,a0a,a6c,e0,e4,e5,d])
    · simp (maxSteps:=1000000) (disch:=omega) only [rg,gD,simprocAttr,d]
      (refine a0f rfl ?_ ?_<;>simp [pack,lo,loL,V.closed,a0b,a0a,a6c,e0,e4,e5,d])
  · -- open true,lost false,gone true
    simp (maxSteps:=1000000) (disch:=omega) only [rg,gD,simprocAttr,c132,rnV,a0h]
    refine ⟨_,h0, ?_⟩
    simp (maxSteps:=1000000) (disch:=omega) only [rg,gD,simprocAttr]
    refine ⟨_,h4, ?_⟩
    simp (maxSteps:=1000000) (disch:=omega) only [rg,gD,simprocAttr]
    refine ⟨_,h0, ?_⟩
    rcases D0 with d | d
    · simp (maxSteps:=1000000) (disch:=omega) only [rg,gD,simprocAttr,d]
      refine ⟨_,h5, ?_⟩
      simp (maxSteps:=1000000) (disch:=omega) only [rg,gD,simprocAttr]
      (refine a0f rfl ?_ ?_<;>simp [pack,lo,loL,V.closed,a0b,a0a,a6c,e0,e4,e5,d])
    · simp (maxSteps:=1000000) (disch:=omega) only [rg,gD,simprocAttr,d]
      (refine a0f rfl ?_ ?_<;>simp [pack,lo,loL,V.closed,a0b,a0a,a6c,e0,e4,e5,d])
  · -- open true,lost true,gone false
    simp (maxSteps:=1000000) (disch:=omega) only [rg,gD,simprocAttr,c132,rnV,a0h]
    refine ⟨_,h0, ?_⟩
    simp (maxSteps:=1000000) (disch:=omega) only [rg,gD,simprocAttr]
    refine ⟨_,h4, ?_⟩
    rcases D2 with d | d
    · simp (maxSteps:=1000000) (disch:=omega) only [rg,gD,simprocAttr,d]
      refine ⟨_,h0, ?_⟩
      simp (maxSteps:=1000000) (disch:=omega) only [rg,gD,simprocAttr]
      (refine a0f rfl ?_ ?_<;>simp [pack,lo,loL,V.closed,a0b,a0a,a6c,e0,e4,e5,d])
    · simp (maxSteps:=1000000) (disch:=omega) only [rg,gD,simprocAttr,d]
      (refine a0f rfl ?_ ?_<;>simp [pack,lo,loL,V.closed,a0b,a0a,a6c,e0,e4,e5,d])
  · -- open true,lost true,gone true
    simp (maxSteps:=1000000) (disch:=omega) only [rg,gD,simprocAttr,c132,rnV,a0h]
    refine ⟨_,h0, ?_⟩
    simp (maxSteps:=1000000) (disch:=omega) only [rg,gD,simprocAttr]
    refine ⟨_,h4, ?_⟩
    rcases D2 with d | d
    · simp (maxSteps:=1000000) (disch:=omega) only [rg,gD,simprocAttr,d]
      refine ⟨_,h0, ?_⟩
      simp (maxSteps:=1000000) (disch:=omega) only [rg,gD,simprocAttr]
      (refine a0f rfl ?_ ?_<;>simp [pack,lo,loL,V.closed,a0b,a0a,a6c,e0,e4,e5,d])
    · simp (maxSteps:=1000000) (disch:=omega) only [rg,gD,simprocAttr,d]
      (refine a0f rfl ?_ ?_<;>simp [pack,lo,loL,V.closed,a0b,a0a,a6c,e0,e4,e5,d])
def b2k (ss:List Stt) (x:Int):Bool:=match ss[x.toNat]? with | some s => decide (s.is=3) | none => false
def a3q (ts:List Task) (ss:List Stt) (i:Nat):Bool:=(a4e ts i).all (b2k ss)
theorem b4w {ss:List Stt} {x:Int} (h:x.toNat < ss.length):b2k ss x=decide (ss[x.toNat].is=3):=by simp [b2k,h]
theorem b3t (r:Rn) (i:Nat) (hi:i < r.dag.tasks.length) (hr:r.states.length≤1000000) (hin:inR r.dag.tasks r.states.length) (hnl:∀ t∈r.dag.tasks,t.needs.length≤1000000) :
    PCall Tryz.prog 134 [rnV r,.int .i64 i] (.bool (a3q r.dag.tasks r.states i)):=by
  refine en134 (by simp) (by simp [a0b,V.closed,a0g]) ?_
  have hnf:=hin _ (List.getElem_mem hi)
  have hnfl:=hnl _ (List.getElem_mem hi)
  rw [a3q,a3x hi]
  simp (maxSteps:=1000000) (disch:=omega) only [rg,gD,simprocAttr,c134,rnV,a0h,a0j,a0q,a2m]
  refine x_it r.dag.tasks[i].needs.length (fun k σ H => H.n=1∧H.m 0=some (.arr 5 [.agg [.str r.key,.str r.dag.name,.fsl .loose 4 (mv a0q r.dag.tasks),.int .i64 r.is,.fsl .loose 5 (mv sttV r.states)]])∧r.dag.tasks[i].needs.all (b2k r.states)=(r.dag.tasks[i].needs.drop k).all (b2k r.states) ∧
    σ=[(2,.ptr 0 0 0),(13,.fsl .loose 1 (vI r.dag.tasks[i].needs)),(14,.int .i64 r.dag.tasks[i].needs.length),(15,.int .i64 k)]) ⟨rfl,by simp [upd],rfl,rfl⟩ ?_
  rintro T k σ ⟨n,m⟩ hk ⟨rfl,e0,hp,rfl⟩ hN hX hR
  simp only at e0
  by_cases k1:k < r.dag.tasks[i].needs.length
  · have hx:=hnf _ (List.getElem_mem k1)
    have hlt:r.dag.tasks[i].needs[k].toNat < r.states.length:=by omega
    rw [List.drop_eq_getElem_cons k1,List.all_cons,b4w hlt] at hp
    by_cases e:r.states[r.dag.tasks[i].needs[k].toNat].is=3
    · rw [decide_eq_true e,Bool.true_and] at hp
      simp (maxSteps:=1000000) (disch:=omega) only [rg,gD,simprocAttr,show (k:Int) < r.dag.tasks[i].needs.length by omega,a3b k1,e0,a0m hlt,sttV,e]
      exact ⟨hx.1,hN _ _ k1 ⟨rfl,e0,hp,rfl⟩⟩
    · rw [decide_eq_false e,Bool.false_and] at hp
      simp (maxSteps:=1000000) (disch:=omega) only [rg,gD,simprocAttr,show (k:Int) < r.dag.tasks[i].needs.length by omega,a3b k1,e0,a0m hlt,sttV,e]
      refine ⟨hx.1,hR _ _ ?_⟩
      (refine a0f rfl ?_ ?_<;>simp [pack,lo,loL,V.closed,a0b,a0a,hp])
  · obtain rfl:k=r.dag.tasks[i].needs.length:=by omega
    simp (maxSteps:=1000000) (disch:=omega) only [rg,gD,simprocAttr,Int.lt_irrefl]
    refine hX _ _ _ ?_
    simp (maxSteps:=1000000) (disch:=omega) only [rg,gD,simprocAttr]
    refine a0s ?_
    simp (maxSteps:=1000000) (disch:=omega) only [rg,gD,simprocAttr]
    rw [List.drop_length,List.all_nil] at hp
    (refine a0f rfl ?_ ?_<;>simp [pack,lo,loL,V.closed,a0b,a0a,hp])
theorem c7w (H:Hp) (b:Nat) (r:Rn) (x:Int) (hb:b < H.n) (h1:H.m b=some (.arr 5 [rnV r])) (hx:0≤x∧x < r.states.length) :
    ACall Tryz.prog 176 [.int .i64 x,.ptr b 0 0] H [b] (.bool (!b2k r.states x)) [] 0:=by
  refine ena176 (by simp) (by simp [lowL,V.low,hb]) (fun id hid => ?_) (by simp) ?_
  · simp at hid; subst hid
    exact ⟨hb,fun o ho => by rw [h1] at ho; simp at ho; subst ho; simp [Ob.low,lowL,V.low_closed _ (a0g r)]⟩
  have q1:only [b] H.m b=some (.arr 5 [.agg [.str r.key,.str r.dag.name,.fsl .loose 4 (mv a0q r.dag.tasks),.int .i64 r.is,.fsl .loose 5 (mv sttV r.states)]]):=by simp [only,h1]; rfl
  have hlt:x.toNat < r.states.length:=by omega
  simp (maxSteps:=1000000) (disch:=omega) only [rg,gD,simprocAttr,c176,q1,a0m hlt,sttV]
  exact ⟨hx.1,a1v (l:=[.bool (!decide (r.states[x.toNat].is=3))]) rfl (.inl (by rw [b4w hlt]; rfl)) (by simp) (fun id => .inr rfl)⟩
theorem b6n (r:Rn) (i:Nat) (hi:i < r.dag.tasks.length) (hr:r.states.length≤1000000) (hin:inR r.dag.tasks r.states.length) (hnl:∀ t∈r.dag.tasks,t.needs.length≤1000000) :
    PCall Tryz.prog 127 [rnV r,.int .i64 i] (.bool (a3q r.dag.tasks r.states i)):=by
  refine en127 (by simp) (by simp [a0b,V.closed,a0g]) ?_
  have hnf:=hin _ (List.getElem_mem hi)
  have hnfl:=hnl _ (List.getElem_mem hi)
  rw [a3q,a3x hi]
  simp (maxSteps:=1000000) (disch:=omega) only [rg,gD,simprocAttr,c127,rnV,a0h,a0j,a0q,a2m]
  refine ⟨_,_,_,_,c0d (rows:=r.dag.tasks[i].needs) (q:=fun x => !b2k r.states x) (fp:=[0]) (kk:=0) (by omega) rfl (by simp [lowL,V.low]) (fun id hid => ?_) (fun x hx H' h1 h2 => ?_), ?_⟩
  · simp at hid; subst hid
    exact ⟨by simp,fun o ho => by simp [upd] at ho; subst ho; simp only [Ob.low]; exact a1g _ (by simp [a0b,V.closed,a0a,a0u,a0e])⟩
  · refine c7w H' 0 r x (by simp at h1; omega) ?_ (hnf x hx)
    rw [h2 0 (by simp)]; simp [upd,rnV,a0h,a0j]
  · rw [← List.not_all_eq_any_not]
    simp (maxSteps:=1000000) (disch:=omega) only [rg,gD,simprocAttr]
    (refine a0f rfl ?_ ?_<;>simp [pack,lo,loL,V.closed,a0b,a0a])
/-! Tokens that were seen. -/
def tkM (l:List Int):List (V×V):=l.foldl (fun m t => mset m (.int .i64 t) (.bool true)) []
def b5s (m:List (V×V)):Prop:=∀ p∈m,∃ n:Int,p.1=.int .i64 n
theorem b4r {m:List (V×V)} (h:b5s m) (a:Int) (v:V):b5s (mset m (.int .i64 a) v):=by
  induction m with
  | nil => intro p hp; simp [mset] at hp; subst hp; exact ⟨a,rfl⟩
  | cons q m ih =>
    obtain ⟨k',v'⟩:=q
    have h2:b5s m:=fun p hp => h p (List.mem_cons_of_mem _ hp)
    intro p hp
    simp only [mset] at hp
    split at hp
    · rcases List.mem_cons.1 hp with rfl | hp
      · exact ⟨a,rfl⟩
      · exact h2 p hp
    · rcases List.mem_cons.1 hp with rfl | hp
      · exact h _ (by simp)
      · exact ih h2 p hp
theorem c3n {m:List (V×V)} (h:b5s m) (a b:Int) (v:V):mget (mset m (.int .i64 a) v) (.int .i64 b)=if b=a then some v else mget m (.int .i64 b):=by
  induction m with
  | nil => simp [mset,mget,keq]
  | cons q m ih =>
    obtain ⟨k',v'⟩:=q
    have h2:b5s m:=fun p hp => h p (List.mem_cons_of_mem _ hp)
    obtain ⟨n,hn⟩:=h (k',v') (by simp)
    simp only at hn; subst hn
    simp only [mset]
    by_cases e:a=n
    · subst e
      simp only [keq,beq_self_eq_true,if_true,mget,beq_iff_eq]
      by_cases f:b=a<;>simp [f]
    · simp only [keq,show (a == n)=false by simpa using e,Bool.false_eq_true,if_false,mget,ih h2,beq_iff_eq]
      by_cases f:b=n
      · subst f; simp [Ne.symm e]
      · simp [f]
theorem c8l (l:List Int):b5s (tkM l):=by
  have:∀ (l:List Int) (m:List (V×V)),b5s m→b5s (l.foldl (fun m t => mset m (.int .i64 t) (.bool true)) m):=by
    intro l
    induction l with
    | nil => intro m h; exact h
    | cons t l ih => intro m h; exact ih _ (b4r h _ _)
  exact this l [] (by intro p hp; cases hp)
theorem b8y (l:List Int) (t:Int):tkM (l++[t])=mset (tkM l) (.int .i64 t) (.bool true):=by simp [tkM,List.foldl_append]
theorem d3m (l:List Int) (b:Int):mget (tkM l) (.int .i64 b)=if b∈l then some (.bool true) else none:=by
  have:∀ (l:List Int) (m:List (V×V)),b5s m→mget (l.foldl (fun m t => mset m (.int .i64 t) (.bool true)) m) (.int .i64 b)=if b∈l then some (.bool true) else mget m (.int .i64 b):=by
    intro l
    induction l with
    | nil => intro m _; simp
    | cons t l ih =>
      intro m h
      rw [List.foldl_cons,ih _ (b4r h _ _),c3n h]
      by_cases c:b∈l
      · simp [c]
      · by_cases d:b=t
        · simp [c,d]
        · simp [c,d]
  rw [tkM,this l [] (by intro p hp; cases hp)]
  rfl
theorem d1a (l:List Int) (b:Int):a8a [7] (.int .i64 b) (tkM l):=by
  refine ⟨rfl,fun p hp => ?_⟩
  obtain ⟨n,hn⟩:=c8l l p hp
  rw [hn]; rfl
theorem c5g (l:List Int) (b:Int):mres false (mget (tkM l) (.int .i64 b)) (.bool false)=.bool (decide (b∈l)):=by
  rw [d3m]
  by_cases c:b∈l<;>simp [mres,c]
def a6n (s:Str):Bool:=decide (1≤s.length∧s.length≤16)
theorem c0g (s:Str) (hs:s.length≤4611686018427387904):PCall Tryz.prog 123 [.str s] (.bool (a6n s)):=by
  refine en123 (by simp) (by simp [a0b,V.closed]) ?_
  by_cases c:1≤s.length
  · simp (maxSteps:=1000000) (disch:=omega) only [rg,gD,simprocAttr,c123,show (1:Int)≤s.length by omega,ge_iff_le]
    (refine a0f rfl ?_ ?_<;>simp [pack,lo,loL,V.closed,a0b,a0a,show a6n s=decide ((s.length:Int)≤16) by simp [a6n,c]; omega])
  · simp (maxSteps:=1000000) (disch:=omega) only [rg,gD,simprocAttr,c123,show ¬ (1:Int)≤s.length by omega,ge_iff_le]
    (refine a0f rfl ?_ ?_<;>simp [pack,lo,loL,V.closed,a0b,a0a,show a6n s=false by simp [a6n,c]])
def tokS (l:List Stt):List Int:=l.map (·.token)
def badS (ts:List Task) (ss:List Stt) (i:Nat):Bool :=
  match ts[i]?,ss[i]? with
  | some t,some s => !a1l t s || (decide (0 < s.token) && decide (s.token∈tokS (ss.take i))) || (decide (s.is≠5) && (decide (s.is=0) == a3q ts ss i))
  | _,_ => true
def a4m (r:Rn):Bool :=
  a6n r.key && decide (a0t r.dag=0) && decide (r.states.length=r.dag.tasks.length) && decide (r.is=b2r r.states) &&
    ((List.range r.states.length).all fun i => !badS r.dag.tasks r.states i) &&
    (if r.is=2 then decide (cntS [0,1,2] r.states=0) else if r.is=0 then decide (cntS [5] r.states=0) else true)
structure RnOk (r:Rn):Prop where
  key:r.key.length≤4611686018427387904
  needs:∀ t∈r.dag.tasks,t.needs.length≤4611686018427387904
  tasks:r.dag.tasks.length≤4611686018427387904
  states:r.states.length≤4611686018427387904
  results:∀ s∈r.states,s.result.length≤4611686018427387904
theorem b0b {d:Dag} (h:a0t d=0):d.tasks.length≤10∧inR d.tasks d.tasks.length∧∀ t∈d.tasks,t.needs.length≤10:=by
  unfold a0t at h
  by_cases c0:10 < d.tasks.length
  · rw [if_pos c0] at h; cases h
  rw [if_neg c0] at h
  by_cases c1:d.tasks.length < 1∨d.name.length < 1∨16 < d.name.length∨(d.tasks.any fun t => !a1d t d.tasks.length)=true
  · rw [if_pos c1] at h; cases h
  have hall:∀ t∈d.tasks,a1d t d.tasks.length=true:=fun t ht => by
    cases e:a1d t d.tasks.length with
    | true => rfl
    | false => exact absurd (.inr (.inr (.inr (List.any_eq_true.2 ⟨t,ht,by simp [e]⟩)))) c1
  refine ⟨by omega,fun t ht => ?_,fun t ht => ?_⟩
  · have:=hall t ht
    simp only [a1d,Bool.and_eq_true] at this
    exact (a4v this.1 (by omega)).1
  · have:=hall t ht
    simp only [a1d,Bool.and_eq_true] at this
    have:=(a4v this.1 (by omega)).2
    omega
theorem b1g {ts:List Task} {ss:List Stt} {i:Nat} (h1:i < ts.length) (h2:i < ss.length):badS ts ss i=(!a1l ts[i] ss[i] || (decide (0 < ss[i].token) && decide (ss[i].token∈tokS (ss.take i))) || (decide (ss[i].is≠5) && (decide (ss[i].is=0) == a3q ts ss i))):=by
  simp [badS,h1,h2]
theorem c1p {r:Rn} {k:Nat} (hk:k < r.states.length) (h:badS r.dag.tasks r.states k=true):a4m r=false:=by
  have:((List.range r.states.length).all fun i => !badS r.dag.tasks r.states i)=false:=by
    rw [List.all_eq_false]; exact ⟨k,by simpa using hk,by simp [h]⟩
  simp [a4m,this]
theorem b7k {l:List Stt} {k:Nat} (h:k < l.length):tokS (l.take (k+1))=tokS (l.take k)++[l[k].token]:=by
  rw [tokS,List.take_succ_eq_append_getElem h,List.map_append]; rfl
theorem b6i (r:Rn) (ok:RnOk r):PCall Tryz.prog 57 [rnV r] (.bool (a4m r)):=by
  refine en57 (by simp) (by simp [a0b,V.closed,a0g]) ?_
  have hn:=c0g r.key ok.key
  have hd:=a9j r.dag ok.needs ok.tasks
  unfold dagV a0j at hd
  by_cases c1:a6n r.key=true
  case neg =>
    have c1:a6n r.key=false:=by simpa using c1
    rw [c1] at hn
    simp (maxSteps:=1000000) (disch:=omega) only [rg,gD,simprocAttr,c57,rnV,a0h,a0j]
    refine ⟨_,hn, ?_⟩
    simp (maxSteps:=1000000) (disch:=omega) only [rg,gD,simprocAttr]
    (refine a0f rfl ?_ ?_<;>simp [pack,lo,loL,V.closed,a0b,a0a,show a4m r=false by simp [a4m,c1]])
  rw [c1] at hn
  by_cases c2:a0t r.dag=0
  case neg =>
    simp (maxSteps:=1000000) (disch:=omega) only [rg,gD,simprocAttr,c57,rnV,a0h,a0j]
    refine ⟨_,hn, ?_⟩
    simp (maxSteps:=1000000) (disch:=omega) only [rg,gD,simprocAttr]
    refine ⟨_,hd, ?_⟩
    simp (maxSteps:=1000000) (disch:=omega) only [rg,gD,simprocAttr,c2]
    (refine a0f rfl ?_ ?_<;>simp [pack,lo,loL,V.closed,a0b,a0a,show a4m r=false by simp [a4m,c2]])
  rw [c2] at hd
  obtain ⟨hl,hin,hnl⟩:=b0b c2
  by_cases c3:r.states.length=r.dag.tasks.length
  case neg =>
    simp (maxSteps:=1000000) (disch:=omega) only [rg,gD,simprocAttr,c57,rnV,a0h,a0j]
    refine ⟨_,hn, ?_⟩
    simp (maxSteps:=1000000) (disch:=omega) only [rg,gD,simprocAttr]
    refine ⟨_,hd, ?_⟩
    simp (maxSteps:=1000000) (disch:=omega) only [rg,gD,simprocAttr,show ¬ (r.states.length:Int)=r.dag.tasks.length by omega]
    (refine a0f rfl ?_ ?_<;>simp [pack,lo,loL,V.closed,a0b,a0a,show a4m r=false by simp [a4m,c3]])
  have hk:=c9g r (by omega)
  unfold rnV a0h a0j at hk
  by_cases c4:r.is=b2r r.states
  case neg =>
    simp (maxSteps:=1000000) (disch:=omega) only [rg,gD,simprocAttr,c57,rnV,a0h,a0j]
    refine ⟨_,hn, ?_⟩
    simp (maxSteps:=1000000) (disch:=omega) only [rg,gD,simprocAttr]
    refine ⟨_,hd, ?_⟩
    simp (maxSteps:=1000000) (disch:=omega) only [rg,gD,simprocAttr,show (r.states.length:Int)=r.dag.tasks.length by omega]
    refine ⟨_,hk, ?_⟩
    simp (maxSteps:=1000000) (disch:=omega) only [rg,gD,simprocAttr,c4]
    (refine a0f rfl ?_ ?_<;>simp [pack,lo,loL,V.closed,a0b,a0a,show a4m r=false by simp [a4m,c4]])
  have he:=a8v r
  unfold rnV a0h a0j at he
  simp (maxSteps:=1000000) (disch:=omega) only [rg,gD,simprocAttr,c57,rnV,a0h,a0j]
  refine ⟨_,hn, ?_⟩
  simp (maxSteps:=1000000) (disch:=omega) only [rg,gD,simprocAttr]
  refine ⟨_,hd, ?_⟩
  simp (maxSteps:=1000000) (disch:=omega) only [rg,gD,simprocAttr,show (r.states.length:Int)=r.dag.tasks.length by omega]
  refine ⟨_,hk, ?_⟩
  simp (maxSteps:=1000000) (disch:=omega) only [rg,gD,simprocAttr,eq_true c4]
  refine ⟨_,he, ?_⟩
  simp (maxSteps:=1000000) (disch:=omega) only [rg,gD,simprocAttr]
  have hsq:=a8w r (by omega)
  unfold rnV a0h a0j at hsq
  have hrunV:V.agg [V.str r.key,V.str r.dag.name,V.fsl .loose 4 (mv a0q r.dag.tasks),V.int .i64 r.is,V.fsl .loose 5 (mv sttV r.states)]=rnV r:=rfl
  refine x_rf (a8g 0 (mv sttV r.states)) (fun k H => 4≤H.n∧H.m 0=some (.arr 5 [V.agg [V.str r.key,V.str r.dag.name,V.fsl .loose 4 (mv a0q r.dag.tasks),V.int .i64 r.is,V.fsl .loose 5 (mv sttV r.states)]])∧H.m 1=some (.arr 1 [V.bool false]) ∧
    H.m 2=some (.mp (tkM (tokS (r.states.take k))))∧H.m 3=some (.arr 1 [V.map 2])∧∀ i,i < k→badS r.dag.tasks r.states i=false) rfl (by simp [a0b,V.closed,a0a,a0e,a0u]) hsq b1n
    ⟨Nat.le_refl 4,by simp [upd],by simp [upd],by simp [upd,tkM,tokS],by simp [upd],by intro i hi; omega⟩ ?_ ?_
  · rintro T k el ⟨n,m⟩ ⟨hn4,e0,e1,e2,e3,hb⟩ hel hN hX hR
    simp only at hn4 e0 e1 e2 e3
    rw [a7d,Nat.zero_add] at hel
    have hk:k < r.states.length:=by
      rcases Nat.lt_or_ge k r.states.length with h | h
      · exact h
      · rw [List.getElem?_eq_none (by rw [a0k]; exact h)] at hel; cases hel
    rw [a0m hk] at hel
    cases hel
    have hkt:k < r.dag.tasks.length:=by omega
    have bad:=b1g hkt hk
    have htr:=c2h r.dag.tasks[k] r.states[k] (ok.results _ (List.getElem_mem hk))
    have hrd:=b6n r k hkt (by omega) (by rw [c3]; exact hin) (fun t ht => by have:=hnl t ht; omega)
    unfold rnV a0h a0j at hrd
    unfold a0q sttV at htr
    have n1:(1:Nat)≠n:=by omega
    have n0:(0:Nat)≠n:=by omega
    have n2:(2:Nat)≠n:=by omega
    have n3:(3:Nat)≠n:=by omega
    have no:badS r.dag.tasks r.states k=true→∀ σ' H2,H2.m 1=some (Ob.arr 1 [V.bool false])→T .ret σ' H2:=fun hbad σ' H2 h1 => by
      refine hR _ _ ?_
      simp (maxSteps:=1000000) (disch:=omega) only [rg,gD,simprocAttr]
      have hz:=c1p hk hbad
      refine a0f (l:=[V.bool false]) (by simp [r57,resE,find,a2i,h1,getC,V.cell]) ?_ ?_<;>simp [hz,pack,V.closed,lo]
    simp (maxSteps:=1000000) (disch:=omega) only [rg,gD,simprocAttr,b0q,sttV,a0q,e0,a0m hkt]
    refine ⟨_,htr, ?_⟩
    cases b1:a1l r.dag.tasks[k] r.states[k] with
    | false =>
      rw [b1] at bad
      simp (maxSteps:=1000000) (disch:=omega) only [rg,gD,simprocAttr,e1]
      exact no (by rw [bad]; rfl) _ _ (by simp [upd])
    | true =>
    rw [b1] at bad
    have tko:=d1a (tokS (r.states.take k)) r.states[k].token
    have tkr:=c5g (tokS (r.states.take k)) r.states[k].token
    have stay:4≤n+1:=by omega
    have next:∀ (n':Nat) (m':Hm),4≤n'→m' 0=some (.arr 5 [V.agg [V.str r.key,V.str r.dag.name,V.fsl .loose 4 (mv a0q r.dag.tasks),V.int .i64 r.is,V.fsl .loose 5 (mv sttV r.states)]])→m' 1=some (.arr 1 [V.bool false]) →
        m' 2=some (.mp (mset (tkM (tokS (r.states.take k))) (.int .i64 r.states[k].token) (.bool true)))→m' 3=some (.arr 1 [V.map 2])→badS r.dag.tasks r.states k=false →
        4≤n'∧m' 0=some (.arr 5 [V.agg [V.str r.key,V.str r.dag.name,V.fsl .loose 4 (mv a0q r.dag.tasks),V.int .i64 r.is,V.fsl .loose 5 (mv sttV r.states)]])∧m' 1=some (.arr 1 [V.bool false]) ∧
          m' 2=some (.mp (tkM (tokS (r.states.take (k+1)))))∧m' 3=some (.arr 1 [V.map 2])∧∀ i,i < k+1→badS r.dag.tasks r.states i=false:=fun n' m' p1 p2 p3 p4 p5 p6 =>
      ⟨p1,p2,p3,by rw [p4,b7k hk,b8y],p5,fun i hi => by
        by_cases hik:i=k
        · subst hik; exact p6
        · exact hb i (by omega)⟩
    by_cases b2:0 < r.states[k].token
    · by_cases b3:r.states[k].token∈tokS (r.states.take k)
      · rw [decide_eq_true b3] at tkr
        simp (maxSteps:=1000000) (disch:=omega) only [rg,gD,simprocAttr,b2,e1,e2,e3,tkr]
        exact ⟨tko,no (by rw [bad]; simp [b2,b3]) _ _ (by simp [upd])⟩
      · rw [decide_eq_false b3] at tkr
        simp (maxSteps:=1000000) (disch:=omega) only [rg,gD,simprocAttr,b2,tkr,e0,e2,e3]
        have bq:badS r.dag.tasks r.states k=(decide (r.states[k].is≠5) && (decide (r.states[k].is=0) == a3q r.dag.tasks r.states k)):=by rw [bad]; simp [b2,b3]
        by_cases d5:r.states[k].is=5
        · simp (maxSteps:=1000000) (disch:=omega) only [rg,gD,simprocAttr,b2,tkr,e0,e1,e2,e3,eq_true d5]
          exact ⟨tko,tko,hN _ _ (next _ _ stay (by simp (disch:=omega) only [a0d,a0c,wo_0,wo_1,wo_2,e0]) (by simp (disch:=omega) only [a0d,a0c,wo_0,wo_1,wo_2,e1]) (by simp (disch:=omega) only [a0d,a0c,wo_0,wo_1,wo_2]) (by simp (disch:=omega) only [a0d,a0c,wo_0,wo_1,wo_2,e3]) (by rw [bq]; simp [d5]))⟩
        rw [show decide (r.states[k].is≠5)=true by simp [d5],Bool.true_and] at bq
        by_cases d0:r.states[k].is=0
        · rw [decide_eq_true d0] at bq
          simp (maxSteps:=1000000) (disch:=omega) only [rg,gD,simprocAttr,b2,tkr,e0,e1,e2,e3,eq_false d5,eq_true d0]
          refine ⟨tko,tko,_,hrd, ?_⟩
          cases hq:a3q r.dag.tasks r.states k with
          | true =>
            rw [hq] at bq
            simp (maxSteps:=1000000) (disch:=omega) only [rg,gD,simprocAttr,e1]
            exact no (by rw [bq]; rfl) _ _ (by simp [upd])
          | false =>
            rw [hq] at bq
            simp (maxSteps:=1000000) (disch:=omega) only [rg,gD,simprocAttr]
            exact hN _ _ (next _ _ stay (by simp (disch:=omega) only [a0d,a0c,wo_0,wo_1,wo_2,e0]) (by simp (disch:=omega) only [a0d,a0c,wo_0,wo_1,wo_2,e1]) (by simp (disch:=omega) only [a0d,a0c,wo_0,wo_1,wo_2]) (by simp (disch:=omega) only [a0d,a0c,wo_0,wo_1,wo_2,e3]) (by rw [bq]; rfl))
        · rw [decide_eq_false d0] at bq
          simp (maxSteps:=1000000) (disch:=omega) only [rg,gD,simprocAttr,b2,tkr,e0,e1,e2,e3,eq_false d5,eq_false d0]
          refine ⟨tko,tko,_,hrd, ?_⟩
          cases hq:a3q r.dag.tasks r.states k with
          | true =>
            rw [hq] at bq
            simp (maxSteps:=1000000) (disch:=omega) only [rg,gD,simprocAttr]
            exact hN _ _ (next _ _ stay (by simp (disch:=omega) only [a0d,a0c,wo_0,wo_1,wo_2,e0]) (by simp (disch:=omega) only [a0d,a0c,wo_0,wo_1,wo_2,e1]) (by simp (disch:=omega) only [a0d,a0c,wo_0,wo_1,wo_2]) (by simp (disch:=omega) only [a0d,a0c,wo_0,wo_1,wo_2,e3]) (by rw [bq]; rfl))
          | false =>
            rw [hq] at bq
            simp (maxSteps:=1000000) (disch:=omega) only [rg,gD,simprocAttr,e1]
            exact no (by rw [bq]; rfl) _ _ (by simp [upd])
    · skip
      simp (maxSteps:=1000000) (disch:=omega) only [rg,gD,simprocAttr,b2,e0,e2,e3]
      have bq:badS r.dag.tasks r.states k=(decide (r.states[k].is≠5) && (decide (r.states[k].is=0) == a3q r.dag.tasks r.states k)):=by rw [bad]; simp [b2]
      by_cases d5:r.states[k].is=5
      · simp (maxSteps:=1000000) (disch:=omega) only [rg,gD,simprocAttr,b2,e0,e1,e2,e3,eq_true d5]
        exact ⟨tko,hN _ _ (next _ _ stay (by simp (disch:=omega) only [a0d,a0c,wo_0,wo_1,wo_2,e0]) (by simp (disch:=omega) only [a0d,a0c,wo_0,wo_1,wo_2,e1]) (by simp (disch:=omega) only [a0d,a0c,wo_0,wo_1,wo_2]) (by simp (disch:=omega) only [a0d,a0c,wo_0,wo_1,wo_2,e3]) (by rw [bq]; simp [d5]))⟩
      rw [show decide (r.states[k].is≠5)=true by simp [d5],Bool.true_and] at bq
      by_cases d0:r.states[k].is=0
      · rw [decide_eq_true d0] at bq
        simp (maxSteps:=1000000) (disch:=omega) only [rg,gD,simprocAttr,b2,e0,e1,e2,e3,eq_false d5,eq_true d0]
        refine ⟨tko,_,hrd, ?_⟩
        cases hq:a3q r.dag.tasks r.states k with
        | true =>
          rw [hq] at bq
          simp (maxSteps:=1000000) (disch:=omega) only [rg,gD,simprocAttr,e1]
          exact no (by rw [bq]; rfl) _ _ (by simp [upd])
        | false =>
          rw [hq] at bq
          simp (maxSteps:=1000000) (disch:=omega) only [rg,gD,simprocAttr]
          exact hN _ _ (next _ _ stay (by simp (disch:=omega) only [a0d,a0c,wo_0,wo_1,wo_2,e0]) (by simp (disch:=omega) only [a0d,a0c,wo_0,wo_1,wo_2,e1]) (by simp (disch:=omega) only [a0d,a0c,wo_0,wo_1,wo_2]) (by simp (disch:=omega) only [a0d,a0c,wo_0,wo_1,wo_2,e3]) (by rw [bq]; rfl))
      · rw [decide_eq_false d0] at bq
        simp (maxSteps:=1000000) (disch:=omega) only [rg,gD,simprocAttr,b2,e0,e1,e2,e3,eq_false d5,eq_false d0]
        refine ⟨tko,_,hrd, ?_⟩
        cases hq:a3q r.dag.tasks r.states k with
        | true =>
          rw [hq] at bq
          simp (maxSteps:=1000000) (disch:=omega) only [rg,gD,simprocAttr]
          exact hN _ _ (next _ _ stay (by simp (disch:=omega) only [a0d,a0c,wo_0,wo_1,wo_2,e0]) (by simp (disch:=omega) only [a0d,a0c,wo_0,wo_1,wo_2,e1]) (by simp (disch:=omega) only [a0d,a0c,wo_0,wo_1,wo_2]) (by simp (disch:=omega) only [a0d,a0c,wo_0,wo_1,wo_2,e3]) (by rw [bq]; rfl))
        | false =>
          rw [hq] at bq
          simp (maxSteps:=1000000) (disch:=omega) only [rg,gD,simprocAttr,e1]
          exact no (by rw [bq]; rfl) _ _ (by simp [upd])
  · rintro ⟨n,m⟩ ⟨hn4,e0,e1,e2,e3,hb⟩
    simp only at hn4 e0 e1 e2 e3
    rw [a6q,a0k] at hb
    have hall:((List.range r.states.length).all fun i => !badS r.dag.tasks r.states i)=true:=by
      rw [List.all_eq_true]; intro i hi; rw [hb i (by simpa using hi)]; rfl
    have hres:a4m r=(if r.is=2 then decide (cntS [0,1,2] r.states=0) else if r.is=0 then decide (cntS [5] r.states=0) else true):=by
      rw [a4m,c1,decide_eq_true c2,decide_eq_true c3,decide_eq_true c4,hall]; simp
    have h3:PCall Tryz.prog 128 [rnV r,.fsl .full 1 [.int .i64 0,.int .i64 1,.int .i64 2]] _:=a4z r [0,1,2] .full (by simp) (by omega)
    have h5:PCall Tryz.prog 128 [rnV r,.fsl .full 1 [.int .i64 5]] _:=a4z r [5] .full (by simp) (by omega)
    unfold rnV a0h a0j at h3 h5
    simp (maxSteps:=1000000) (disch:=omega) only [rg,gD,simprocAttr,e0]
    refine ⟨_,h3, ?_⟩
    by_cases d2:r.is=2
    · rw [if_pos d2] at hres
      simp (maxSteps:=1000000) (disch:=omega) only [rg,gD,simprocAttr,e0,e1,eq_true d2]
      by_cases z:cntS [0,1,2] r.states=0
      · simp (maxSteps:=1000000) (disch:=omega) only [rg,gD,simprocAttr,show ((cntS [0,1,2] r.states:Nat):Int)=0 by omega]
        (refine a0f rfl ?_ ?_<;>simp [pack,lo,loL,V.closed,a0b,a0a,hres,z])
      · simp (maxSteps:=1000000) (disch:=omega) only [rg,gD,simprocAttr,show ¬ ((cntS [0,1,2] r.states:Nat):Int)=0 by omega]
        (refine a0f rfl ?_ ?_<;>simp [pack,lo,loL,V.closed,a0b,a0a,hres,z])
    · rw [if_neg d2] at hres
      by_cases d0:r.is=0
      · rw [if_pos d0] at hres
        simp (maxSteps:=1000000) (disch:=omega) only [rg,gD,simprocAttr,e0,e1,eq_false d2,eq_true d0]
        refine ⟨_,h5, ?_⟩
        by_cases z:cntS [5] r.states=0
        · simp (maxSteps:=1000000) (disch:=omega) only [rg,gD,simprocAttr,e0,e1,show ((cntS [5] r.states:Nat):Int)=0 by omega]
          (refine a0f rfl ?_ ?_<;>simp [pack,lo,loL,V.closed,a0b,a0a,hres,z])
        · simp (maxSteps:=1000000) (disch:=omega) only [rg,gD,simprocAttr,e0,e1,show ¬ ((cntS [5] r.states:Nat):Int)=0 by omega]
          (refine a0f rfl ?_ ?_<;>simp [pack,lo,loL,V.closed,a0b,a0a,hres,z])
      · rw [if_neg d0] at hres
        simp (maxSteps:=1000000) (disch:=omega) only [rg,gD,simprocAttr,e0,e1,eq_false d2,eq_false d0]
        (refine a0f rfl ?_ ?_<;>simp [pack,lo,loL,V.closed,a0b,a0a,hres])
theorem a5y {ks:List Int}:∀ {l:List Stt},cntS ks l=0↔∀ s∈l,s.is∉ks
  | [] => by simp [cntS]
  | s::l => by
    simp only [cntS,List.mem_cons,forall_eq_or_imp,← a5y (l:=l)]
    by_cases h:s.is∈ks<;>simp [h]
theorem b1f {ks:List Int}:∀ {l:List Stt},cntS ks l=l.length↔∀ s∈l,s.is∈ks
  | [] => by simp [cntS]
  | s::l => by
    have hle:=b7r ks l
    simp only [cntS,List.mem_cons,forall_eq_or_imp,← b1f (l:=l),List.length_cons]
    by_cases h:s.is∈ks
    · simp [h]; omega
    · simp [h]; omega
theorem a7l {l:List Stt} {k:Int}:hasS l k=false↔∀ s∈l,s.is≠k:=by simp [hasS]
theorem b7d {l:List Stt}:a9z l=false↔∀ s∈l,s.is≠0∧s.is≠1∧s.is≠2:=by
  simp only [a9z,Bool.or_eq_false_iff,a7l]
  exact ⟨fun h s hs => ⟨h.1.1 s hs,h.1.2 s hs,h.2 s hs⟩,fun h => ⟨⟨fun s hs => (h s hs).1,fun s hs => (h s hs).2.1⟩,fun s hs => (h s hs).2.2⟩⟩
theorem c6m (r:Rn) (h:∀ s∈r.states,0≤s.is∧s.is≤5) :
    (decide (r.is=b2r r.states) && (if r.is=2 then decide (cntS [0,1,2] r.states=0) else if r.is=0 then decide (cntS [5] r.states=0) else true))=a6c r:=by
  have z012:cntS [0,1,2] r.states=0↔a9z r.states=false:=by
    rw [a5y,b7d]; simp
  have z5:cntS [5] r.states=0↔hasS r.states 5=false:=by rw [a5y,a7l]; simp
  have z4:0 < cntS [4] r.states↔hasS r.states 4=true:=by
    have:cntS [4] r.states=0↔hasS r.states 4=false:=by rw [a5y,a7l]; simp
    cases e:hasS r.states 4 with
    | true => rw [e] at this; simp at this; simp; omega
    | false => rw [e] at this; simp at this; simp [this]
  have z3:cntS [3] r.states=r.states.length↔a9z r.states=false∧hasS r.states 4=false∧hasS r.states 5=false:=by
    rw [b1f,b7d,a7l,a7l]
    constructor
    · intro k
      refine ⟨fun s hs => ?_,fun s hs => ?_,fun s hs => ?_⟩<;>have:=k s hs<;>simp at this<;>omega
    · rintro ⟨k1,k2,k3⟩ s hs
      have:=k1 s hs; have:=k2 s hs; have:=k3 s hs; have:=h s hs
      simp; omega
  unfold b2r a6c
  cases e0:a9z r.states<;>cases e4:hasS r.states 4<;>cases e5:hasS r.states 5<;>simp only [e0,e4,e5] at z012 z5 z4 z3<;>simp at z012 z5 z4 z3
  all_goals (simp [z012,z5,z4,z3])
  all_goals omega
def a3g (r:Rn):Bool :=
  a6n r.key && decide (a0t r.dag=0) && decide (r.states.length=r.dag.tasks.length) && a6c r && ((List.range r.states.length).all fun i => !badS r.dag.tasks r.states i)
theorem b7o (r:Rn):a3g r=a4m r:=by
  unfold a3g a4m
  cases hb:(List.range r.states.length).all fun i => !badS r.dag.tasks r.states i with
  | false => simp
  | true =>
    by_cases hl:r.states.length=r.dag.tasks.length
    · have his:∀ s∈r.states,0≤s.is∧s.is≤5:=by
        intro s hs
        obtain ⟨i,hi⟩:=List.mem_iff_getElem?.1 hs
        have hil:=(List.getElem?_eq_some_iff.1 hi).1
        have e:r.states[i]=s:=(List.getElem?_eq_some_iff.1 hi).2
        rw [List.all_eq_true] at hb
        have:=hb i (by simpa using hil)
        rw [b1g (by omega) hil] at this
        simp at this
        have h1:=this.1.1
        rw [e] at h1
        simp only [a1l,Bool.and_eq_true] at h1
        have:=(a5e s).1 h1.1
        omega
      have:=c6m r his
      rw [← this]
      cases a6n r.key<;>cases decide (a0t r.dag=0)<;>cases decide (r.states.length=r.dag.tasks.length)<;>simp
    · simp [hl]
end Go.Proofs.YtkdeckmglbnfbaaGreat.Ev
