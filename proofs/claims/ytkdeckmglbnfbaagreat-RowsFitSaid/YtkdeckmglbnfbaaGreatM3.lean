/-
  Part 3 of what the proof of the statement RowsFit leans on: the evaluator, the functions in compact form, and what they answer.
-/
import Derived.Test.YtkdeckmglbnfbaaGreatM2
import Derived.Shelf.Strings.OnBuilder
import Derived.Test.YtkdeckmglbnfbaaGreatProg
import Derived.KernelRfl
set_option linter.unusedSimpArgs false
set_option linter.unusedVariables false
set_option maxRecDepth 10000
namespace Go.Proofs.YtkdeckmglbnfbaaGreat.Ev
open Go
section
open Go Go.RowKit
theorem PCall.of_below {P:Program} {f:Nat} {vs:List V} {r:V} (hb:HasBody P f)
    (h:∀ (g:G) (m:Hm) (w:World) (xs:Array Value),RS g m w→RC g vs xs.toList→Calls P f xs w fun e w' => ∃ x,e=.returned x∧R g r x∧Below w.heap.size w w'):PCall P f vs r:=by
  refine ⟨hb,fun m g w xs hs hx => (h g m w xs hs hx).mono ?_⟩
  rintro e w' ⟨x,rfl,hr,hbel⟩
  refine ⟨x,g.F,rfl,hr,⟨fun b cs hF => ?_,fun id o hm => ?_,hs.inj⟩,hbel.size,fun b hb _ => hbel.block b hb,.refl g,fun b hb => .inr hb,fun b cs hF => .inl hF,hbel.os,hbel.tape,hbel.output⟩
  · obtain ⟨e,fr,h1⟩:=hs.fro b cs hF
    exact ⟨e,fr,by rw [hbel.block b (hs.fro_lt hF)]; exact h1⟩
  · exact (hs.live id o hm).keep (.refl g) fun b s n hb => ⟨hbel.block b ((hs.live id o hm).lt hb),(hs.live id o hm).unF hb⟩
theorem fat_cell {g:G} {m:Hm} {w:World} {b o:Nat} {xs:List Value} (hs:RS g m w) (h:FAt g b o xs) {j:Nat} {x:Value} (hj:xs[j]?=some x):w.cell? ⟨b,o+j,none⟩=some x∧b < w.heap.size:=by
  obtain ⟨pre,post,h1,rfl⟩:=h
  obtain ⟨e,fr,h2⟩:=hs.fro b _ h1
  have hlt:j < xs.length:=(List.getElem?_eq_some_iff.1 hj).1
  refine ⟨?_,hs.fro_lt h1⟩
  simp only [World.cell?,h2]
  rw [List.getElem?_toArray,List.append_assoc,List.getElem?_append_right (by omega),Nat.add_sub_cancel_left,List.getElem?_append_left hlt]
  exact hj
theorem RL_strs {g:G}:∀ {l:List (List UInt8)} {xs:List Value},RL g (mv V.str l) xs→xs=l.map fun s => .string ⟨s.toArray⟩
  | [],_,h => by simpa [mv,RL] using h
  | s::l,_,h => by
    simp only [mv_cons,RL] at h
    obtain ⟨y,ys,rfl,⟨_,h1⟩,h2⟩:=h
    simp only [R] at h1; subst h1
    rw [RL_strs h2]; rfl
theorem join_nil (l:List (List UInt8)):Lib.join l []=l.flatten:=by
  cases l with
  | nil => rfl
  | cons a l => rw [Lib.join_cons,Lib.joinTail]; simp
theorem bytes_back:∀ l:List (List UInt8),(l.map fun s => (⟨s.toArray⟩:ByteArray)).map (·.data.toList)=l
  | [] => rfl
  | a::l => by simp only [List.map_cons,bytes_back l]
theorem join_pcall {P:Program} {ρ:Shelf.Ren} (L:Lays.n156 P ρ) (X:Builder.Extra P ρ) (hb:HasBody P (ρ.f 156)) (st:St) (l:List (List UInt8)) (sep:List UInt8) (hN:l.length≤140737488355328) (hlen:(Lib.join l sep).length≤140737488355328) :
    PCall P (ρ.f 156) [.fsl st 1 (mv V.str l),.str sep] (.str (Lib.join l sep)):=by
  refine .of_below hb fun g m w xs hs hx => ?_
  simp only [RC,R] at hx
  obtain ⟨y,ys,e1,⟨a,cap,cells,rfl,k2,k3,k4,k5,k6,k7,k8⟩,z,zs,rfl,rfl,rfl⟩:=hx
  obtain rfl:xs=#[.slice a (mv V.str l).length cap,.string ⟨sep.toArray⟩]:=by apply Array.ext'; simpa using e1
  have hcs:=RL_strs k2
  rw [mv_len]
  rcases k8 with hnil | ⟨b,o,rfl,hF⟩
  · have:l=[]:=by cases l<;>simp [mv] at hnil ⊢
    subst this
    refine (Any.strings_Join_none L X a cap ⟨sep.toArray⟩ w).mono ?_
    rintro e w' ⟨rfl,rfl⟩
    exact ⟨_,rfl,by simp [R,Lib.join],Below.refl _ _⟩
  · cases l with
    | nil =>
      refine (Any.strings_Join_none L X _ cap ⟨sep.toArray⟩ w).mono ?_
      rintro e w' ⟨rfl,rfl⟩
      exact ⟨_,rfl,by simp [R,Lib.join],Below.refl _ _⟩
    | cons s l =>
      have e:((s::l).map fun s => (⟨s.toArray⟩:ByteArray)).map (·.data.toList)=s::l:=bytes_back _
      have:=Any.strings_Join L X b o cap ((s::l).map fun s => (⟨s.toArray⟩:ByteArray)) ⟨sep.toArray⟩ w (fun j x hj => by
          refine (fat_cell hs hF (j:=j) ?_).1
          rw [hcs]
          simp only [List.getElem?_map] at hj ⊢
          cases hq:(s::l)[j]? with
          | none => rw [hq] at hj; cases hj
          | some q => rw [hq] at hj; simp at hj ⊢; exact hj)
        (fat_cell hs hF (j:=0) (by rw [hcs]; rfl)).2 (by simpa using hN) (by simpa [mv_len] using k4) (by rw [e]; simpa using hlen)
      rw [e] at this
      simp only [List.length_map] at this
      refine this.mono ?_
      rintro e w' ⟨rfl,hw⟩
      exact ⟨_,rfl,by simp [R],hw⟩
end
def c67:C :=
  (.seq
 (.reg false [p (.mov (.k (.str [])))] [(0,.v 0)])
 (.seq
 (.reg false [p (.mov (.v 0)),
 p (.call true (.k (.fn 136 [] [])) [.r 0,.k (.str [])]),
 p (.mov (.r 0))] [(2,.r 0)])
 .ret))
def r67:List RV:=[.t 2]
theorem en67:EnP Tryz.prog 67 5 c67 r67:=mkEnP (by kernel_rfl) Tryz.func67 (by kernel_rfl) ⟨_,rfl,by kernel_rfl,by kernel_rfl⟩
def c85:C :=
  (.seq
 (.reg false [p (.mov (.k (.str []))),
 p (.mov (.k (.int .i64 0)))] [(0,.v 0),(1,.v 1)])
 (.seq
 (.seq
 (.reg false [p (.mov (.v 1)),
 p (.bin .lss (.r 0) (.k (.int .i64 1))),
 p (.mov (.r 0)),
 ⟨.mov (.v 1),some (0,false),[]⟩,
 ⟨.bin .gtr (.r 0) (.k (.int .i64 6)),some (1,false),[]⟩,
 p (.pick (.r 2) (.k (.bool true)) (.r 0)),
 p (.mov (.r 0)),
 ⟨.mov (.v 0),some (0,false),[]⟩,
 ⟨.bin .lss (.r 0) (.k (.int .i64 0)),some (1,false),[]⟩,
 p (.pick (.r 2) (.k (.bool true)) (.r 0)),
 p (.mov (.r 0)),
 ⟨.mov (.v 0),some (0,false),[]⟩,
 ⟨.mov (.v 1),some (1,false),[]⟩,
 ⟨.bin .mul (.k (.int .i64 8)) (.r 0),some (2,false),[]⟩,
 ⟨.bin .shr (.r 2) (.r 0),some (3,false),[]⟩,
 ⟨.bin .neq (.r 0) (.k (.int .i64 0)),some (4,false),[]⟩,
 p (.pick (.r 5) (.k (.bool true)) (.r 0))] [(0,.v 0),(1,.v 1),(24,.r 0)])
 (.cond (.v 24)
 (.seq
 (.reg false [p (.mov (.k (.str []))),
 p (.mov (.k (.int .i64 1)))] [(4,.r 1),(5,.r 0)])
 .ret)
 .skip))
 (.seq
 (.reg false [p (.mov (.v 1)),
 p (.mks 1 1 (.int .u8 0) (.r 0)),
 p (.mov (.r 0))] [(0,.v 0),(1,.v 1),(6,.r 0)])
 (.seq
 (.seq
 (.reg false [p (.mov (.v 6)),
 p (.len false (.r 0)),
 p (.mov (.k (.int .i64 0)))] [(0,.v 0),(1,.v 1),(6,.v 6),(28,.r 1),(29,.r 0)])
 (.block 0
 (.loop
 (.seq
 (.reg false [p (.bin .lss (.v 29) (.v 28))] [(0,.v 0),(1,.v 1),(6,.v 6),(28,.v 28),(29,.v 29),(30,.r 0)])
 (.seq
 (.cond (.v 30)
 .skip
 (.exit 0))
 (.seq
 (.block 1
 (.seq
 (.reg false [p (.mov (.v 29)),
 p (.mov (.r 0))] [(0,.v 0),(1,.v 1),(6,.v 6),(7,.r 0),(28,.v 28),(29,.v 29)])
 (.reg false [p (.mov (.v 6)),
 p (.mov (.v 1)),
 p (.bin .sub (.r 0) (.k (.int .i64 1))),
 p (.mov (.v 7)),
 p (.bin .sub (.r 1) (.r 0)),
 p (.mov (.v 0)),
 p (.mov (.v 7)),
 p (.bin .mul (.k (.int .i64 8)) (.r 0)),
 p (.bin .shr (.r 2) (.r 0)),
 p (.cvt .u8 (.r 0)),
 p (.iad 1 (.r 9) (.r 5)),
 p (.store (none) (.r 0) (.r 1))] [(0,.v 0),(1,.v 1),(6,.v 6),(28,.v 28),(29,.v 29)])))
 (.reg false [p (.bin .add (.v 29) (.k (.int .i64 1))),
 p (.mov (.r 0))] [(0,.v 0),(1,.v 1),(6,.v 6),(28,.v 28),(29,.r 0)])))))))
 (.frz
 (.seq
 (.reg false [p (.mov (.v 6)),
 p (.bts (.r 0)),
 p (.mov (.r 0)),
 p (.mov (.k (.int .i64 0)))] [(4,.r 1),(5,.r 0)])
 .ret))))))
def r85:List RV:=[.t 4,.t 5]
theorem en85:EnP Tryz.prog 85 46 c85 r85:=mkEnP (by kernel_rfl) Tryz.func85 (by kernel_rfl) ⟨_,rfl,by kernel_rfl,by kernel_rfl⟩
def c69:C :=
  (.seq
 (.reg false [p (.mov (.k (.str []))),
 p (.mov (.k (.int .i64 0)))] [(0,.v 0)])
 (.seq
 (.seq
 (.reg false [p (.mov (.v 0)),
 p (.len true (.r 0)),
 p (.bin .gtr (.r 0) (.k (.int .i64 65535)))] [(0,.v 0),(8,.r 0)])
 (.cond (.v 8)
 (.seq
 (.reg false [p (.mov (.k (.str []))),
 p (.mov (.k (.int .i64 2)))] [(2,.r 1),(3,.r 0)])
 .ret)
 .skip))
 (.seq
 (.reg false [p (.mov (.v 0)),
 p (.len true (.r 0)),
 p (.call true (.k (.fn 85 [] [])) [.r 0,.k (.int .i64 2)]),
 p (.mov (.r 0)),
 p (.ext (.r 0) 0),
 p (.ext (.r 1) 1),
 p (.mov (.r 1)),
 p (.mov (.r 1))] [(0,.v 0),(4,.r 1),(5,.r 0)])
 (.seq
 (.reg false [p (.mov (.v 4)),
 p (.mov (.v 0)),
 p (.bsl 1 [.r 1,.r 0]),
 p (.call true (.k (.fn 67 [] [])) [.r 0]),
 p (.mov (.v 5)),
 p (.mov (.r 1)),
 p (.mov (.r 1))] [(2,.r 1),(3,.r 0)])
 .ret))))
def r69:List RV:=[.t 2,.t 3]
theorem en69:EnP Tryz.prog 69 20 c69 r69:=mkEnP (by kernel_rfl) Tryz.func69 (by kernel_rfl) ⟨_,rfl,by kernel_rfl,by kernel_rfl⟩
def c87:C :=
  (.seq
 (.reg false [p (.mov (.k (.int .i64 0))),
 p (.mov (.k (.int .i64 0))),
 p (.mov (.k (.int .i64 0)))] [(0,.v 0),(1,.v 1),(2,.v 2)])
 (.seq
 (.block 0
 (.seq
 (.reg false [p (.mov (.v 2)),
 p (.bin .lss (.r 0) (.k (.int .i64 1))),
 p (.mov (.r 0)),
 ⟨.mov (.v 2),some (0,false),[]⟩,
 ⟨.bin .gtr (.r 0) (.k (.int .i64 6)),some (1,false),[]⟩,
 p (.pick (.r 2) (.k (.bool true)) (.r 0)),
 p (.mov (.r 0)),
 ⟨.mov (.v 1),some (0,false),[]⟩,
 ⟨.bin .lss (.r 0) (.k (.int .i64 0)),some (1,false),[]⟩,
 p (.pick (.r 2) (.k (.bool true)) (.r 0)),
 p (.mov (.r 0)),
 ⟨.mov (.v 1),some (0,false),[]⟩,
 ⟨.mov (.v 0),some (1,false),[]⟩,
 ⟨.len true (.r 0),some (2,false),[]⟩,
 ⟨.bin .gtr (.r 2) (.r 0),some (3,false),[]⟩,
 p (.pick (.r 4) (.k (.bool true)) (.r 0)),
 p (.mov (.r 0))] [(0,.v 0),(1,.v 1),(2,.v 2),(12,.r 0)])
 (.cond (.v 12)
 (.seq
 (.reg false [p (.mov (.k (.int .i64 0))),
 p (.mov (.k (.int .i64 0))),
 p (.mov (.k (.int .i64 1)))] [(6,.r 2),(7,.r 1),(8,.r 0)])
 .ret)
 (.seq
 (.reg false [p (.mov (.v 0)),
 p (.len true (.r 0)),
 p (.mov (.v 1)),
 p (.bin .sub (.r 1) (.r 0)),
 p (.mov (.v 2)),
 p (.bin .lss (.r 1) (.r 0)),
 p (.mov (.r 0))] [(0,.v 0),(1,.v 1),(2,.v 2),(29,.r 0)])
 (.cond (.v 29)
 (.seq
 (.reg false [p (.mov (.k (.int .i64 0))),
 p (.mov (.k (.int .i64 0))),
 p (.mov (.k (.int .i64 3)))] [(6,.r 2),(7,.r 1),(8,.r 0)])
 .ret)
 .skip)))))
 (.seq
 (.reg false [p (.mov (.k (.int .i64 0)))] [(0,.v 0),(1,.v 1),(2,.v 2),(9,.r 0)])
 (.seq
 (.seq
 (.reg false [p (.mov (.v 0)),
 p (.mov (.v 1)),
 p (.mov (.v 1)),
 p (.mov (.v 2)),
 p (.bin .add (.r 1) (.r 0)),
 p (.sls (.r 4) (some (.r 3)) (some (.r 0))),
 p (.stb (.r 0)),
 p (.len false (.r 0)),
 p (.mov (.k (.int .i64 0)))] [(1,.v 1),(2,.v 2),(9,.v 9),(42,.r 2),(43,.r 1),(44,.r 0)])
 (.block 1
 (.loop
 (.seq
 (.reg false [p (.bin .lss (.v 44) (.v 43))] [(1,.v 1),(2,.v 2),(9,.v 9),(42,.v 42),(43,.v 43),(44,.v 44),(45,.r 0)])
 (.seq
 (.cond (.v 45)
 .skip
 (.exit 1))
 (.seq
 (.block 2
 (.seq
 (.reg false [p (.iad 1 (.v 42) (.v 44)),
 p (.load (none) (.r 0)),
 p (.mov (.r 0))] [(1,.v 1),(2,.v 2),(9,.v 9),(11,.r 0),(42,.v 42),(43,.v 43),(44,.v 44)])
 (.reg false [p (.mov (.v 9)),
 p (.bin .shl (.r 0) (.k (.int .u64 8))),
 p (.mov (.v 11)),
 p (.cvt .i64 (.r 0)),
 p (.bin .or (.r 2) (.r 0)),
 p (.mov (.r 0))] [(1,.v 1),(2,.v 2),(9,.r 0),(42,.v 42),(43,.v 43),(44,.v 44)])))
 (.reg false [p (.bin .add (.v 44) (.k (.int .i64 1))),
 p (.mov (.r 0))] [(1,.v 1),(2,.v 2),(9,.v 9),(42,.v 42),(43,.v 43),(44,.r 0)])))))))
 (.frz
 (.seq
 (.reg false [p (.mov (.v 9)),
 p (.mov (.v 1)),
 p (.mov (.v 2)),
 p (.bin .add (.r 1) (.r 0)),
 p (.mov (.r 3)),
 p (.mov (.r 1)),
 p (.mov (.k (.int .i64 0)))] [(6,.r 2),(7,.r 1),(8,.r 0)])
 .ret))))))
def r87:List RV:=[.t 6,.t 7,.t 8]
theorem en87:EnP Tryz.prog 87 58 c87 r87:=mkEnP (by kernel_rfl) Tryz.func87 (by kernel_rfl) ⟨_,rfl,by kernel_rfl,by kernel_rfl⟩
def c89:C :=
  (.seq
 (.reg false [p (.mov (.k (.str []))),
 p (.mov (.k (.int .i64 0))),
 p (.mov (.k (.int .i64 0)))] [(0,.v 0),(1,.v 1)])
 (.seq
 (.reg false [p (.mov (.v 0)),
 p (.mov (.v 1)),
 p (.call true (.k (.fn 87 [] [])) [.r 1,.r 0,.k (.int .i64 2)]),
 p (.mov (.r 0)),
 p (.ext (.r 0) 0),
 p (.ext (.r 1) 1),
 p (.ext (.r 2) 2),
 p (.mov (.r 2)),
 p (.mov (.r 2)),
 p (.mov (.r 2))] [(0,.v 0),(1,.r 1),(7,.r 2),(8,.r 0)])
 (.seq
 (.block 0
 (.seq
 (.reg false [p (.mov (.v 8)),
 p (.bin .neq (.r 0) (.k (.int .i64 0))),
 p (.mov (.r 0))] [(0,.v 0),(1,.v 1),(7,.v 7),(8,.v 8),(16,.r 0)])
 (.cond (.v 16)
 (.seq
 (.reg false [p (.mov (.v 8)),
 p (.mov (.k (.str []))),
 p (.mov (.k (.int .i64 0))),
 p (.mov (.r 2))] [(4,.r 2),(5,.r 1),(6,.r 0)])
 .ret)
 (.seq
 (.reg false [p (.mov (.v 0)),
 p (.len true (.r 0)),
 p (.mov (.v 1)),
 p (.bin .sub (.r 1) (.r 0)),
 p (.mov (.v 7)),
 p (.bin .lss (.r 1) (.r 0)),
 p (.mov (.r 0))] [(0,.v 0),(1,.v 1),(7,.v 7),(20,.r 0)])
 (.cond (.v 20)
 (.seq
 (.reg false [p (.mov (.k (.str []))),
 p (.mov (.k (.int .i64 0))),
 p (.mov (.k (.int .i64 3)))] [(4,.r 2),(5,.r 1),(6,.r 0)])
 .ret)
 .skip)))))
 (.seq
 (.reg false [p (.mov (.v 0)),
 p (.mov (.v 1)),
 p (.mov (.v 1)),
 p (.mov (.v 7)),
 p (.bin .add (.r 1) (.r 0)),
 p (.sls (.r 4) (some (.r 3)) (some (.r 0))),
 p (.mov (.v 1)),
 p (.mov (.v 7)),
 p (.bin .add (.r 1) (.r 0)),
 p (.mov (.r 3)),
 p (.mov (.r 1)),
 p (.mov (.k (.int .i64 0)))] [(4,.r 2),(5,.r 1),(6,.r 0)])
 .ret))))
def r89:List RV:=[.t 4,.t 5,.t 6]
theorem en89:EnP Tryz.prog 89 36 c89 r89:=mkEnP (by kernel_rfl) Tryz.func89 (by kernel_rfl) ⟨_,rfl,by kernel_rfl,by kernel_rfl⟩
def c223:C :=
  (.seq
 (.reg false [p (.mov (.k (.int .i64 0)))] [(0,.v 0),(1,.v 1)])
 (.seq
 (.seq
 (.reg false [p (.mov (.v 0)),
 p (.len false (.r 0)),
 p (.mov (.k (.int .i64 0)))] [(0,.v 0),(1,.v 1),(7,.r 1),(8,.r 0)])
 (.block 0
 (.loop
 (.seq
 (.reg false [p (.bin .lss (.v 8) (.v 7))] [(0,.v 0),(1,.v 1),(7,.v 7),(8,.v 8),(9,.r 0)])
 (.seq
 (.cond (.v 9)
 .skip
 (.exit 0))
 (.seq
 (.block 1
 (.seq
 (.reg false [p (.mov (.v 8)),
 p (.mov (.r 0))] [(0,.v 0),(1,.v 1),(5,.r 0),(7,.v 7),(8,.v 8)])
 (.seq
 (.reg false [p (.mov (.v 1)),
 p (.mov (.v 0)),
 p (.mov (.v 5)),
 p (.iad 1 (.r 1) (.r 0)),
 p (.load (none) (.r 0)),
 p (.call false (.r 4) [.r 0])] [(0,.v 0),(1,.v 1),(5,.v 5),(7,.v 7),(8,.v 8),(16,.r 0)])
 (.cond (.v 16)
 (.seq
 (.reg false [p (.mov (.v 5)),
 p (.mov (.r 0))] [(4,.r 0)])
 .ret)
 .skip))))
 (.reg false [p (.bin .add (.v 8) (.k (.int .i64 1))),
 p (.mov (.r 0))] [(0,.v 0),(1,.v 1),(7,.v 7),(8,.r 0)])))))))
 (.frz
 (.seq
 (.reg false [p (.mov (.k (.int .i64 (-1))))] [(4,.r 0)])
 .ret))))
def r223:List RV:=[.t 4]
theorem chk223:Chk Tryz.prog Tryz.f223 c223 r223:=⟨_,rfl,by kernel_rfl,by kernel_rfl⟩
theorem ena223:EnA Tryz.prog 223 19 c223 r223:=mkEnA (by kernel_rfl) Tryz.func223 (by kernel_rfl) chk223
def c175:C :=
  (.seq
 (.reg false [p (.mov (.k (.bool false)))] [(0,.v 0),(1,.v 1)])
 (.seq
 (.reg false [p (.mov (.v 0)),
 p (.mov (.v 1)),
 p (.call false (.k (.fn 223 [] [])) [.r 1,.r 0]),
 p (.bin .geq (.r 0) (.k (.int .i64 0))),
 p (.mov (.r 0))] [(4,.r 0)])
 .ret))
def r175:List RV:=[.t 4]
theorem chk175:Chk Tryz.prog Tryz.f175 c175 r175:=⟨_,rfl,by kernel_rfl,by kernel_rfl⟩
theorem ena175:EnA Tryz.prog 175 9 c175 r175:=mkEnA (by kernel_rfl) Tryz.func175 (by kernel_rfl) chk175
def c172:C :=
  (.seq
 (.reg false [p (.mov (.k (.int .i64 0)))] [(0,.v 0),(1,.v 1)])
 (.seq
 (.seq
 (.reg false [p (.mov (.v 0)),
 p (.len false (.r 0)),
 p (.mov (.k (.int .i64 0)))] [(0,.v 0),(1,.v 1),(7,.r 1),(8,.r 0)])
 (.block 0
 (.loop
 (.seq
 (.reg false [p (.bin .lss (.v 8) (.v 7))] [(0,.v 0),(1,.v 1),(7,.v 7),(8,.v 8),(9,.r 0)])
 (.seq
 (.cond (.v 9)
 .skip
 (.exit 0))
 (.seq
 (.block 1
 (.seq
 (.reg false [p (.mov (.v 8)),
 p (.mov (.r 0))] [(0,.v 0),(1,.v 1),(5,.r 0),(7,.v 7),(8,.v 8)])
 (.seq
 (.reg false [p (.mov (.v 1)),
 p (.mov (.v 0)),
 p (.mov (.v 5)),
 p (.iad 4 (.r 1) (.r 0)),
 p (.load (some 4) (.r 0)),
 p (.call false (.r 4) [.r 0])] [(0,.v 0),(1,.v 1),(5,.v 5),(7,.v 7),(8,.v 8),(16,.r 0)])
 (.cond (.v 16)
 (.seq
 (.reg false [p (.mov (.v 5)),
 p (.mov (.r 0))] [(4,.r 0)])
 .ret)
 .skip))))
 (.reg false [p (.bin .add (.v 8) (.k (.int .i64 1))),
 p (.mov (.r 0))] [(0,.v 0),(1,.v 1),(7,.v 7),(8,.r 0)])))))))
 (.frz
 (.seq
 (.reg false [p (.mov (.k (.int .i64 (-1))))] [(4,.r 0)])
 .ret))))
def r172:List RV:=[.t 4]
theorem chk172:Chk Tryz.prog Tryz.f172 c172 r172:=⟨_,rfl,by kernel_rfl,by kernel_rfl⟩
theorem ena172:EnA Tryz.prog 172 19 c172 r172:=mkEnA (by kernel_rfl) Tryz.func172 (by kernel_rfl) chk172
def c114:C :=
  (.seq
 (.reg false [p (.mov (.k (.bool false)))] [(0,.v 0),(1,.v 1)])
 (.seq
 (.reg false [p (.mov (.v 0)),
 p (.mov (.v 1)),
 p (.call false (.k (.fn 172 [] [])) [.r 1,.r 0]),
 p (.bin .geq (.r 0) (.k (.int .i64 0))),
 p (.mov (.r 0))] [(4,.r 0)])
 .ret))
def r114:List RV:=[.t 4]
theorem chk114:Chk Tryz.prog Tryz.f114 c114 r114:=⟨_,rfl,by kernel_rfl,by kernel_rfl⟩
theorem ena114:EnA Tryz.prog 114 9 c114 r114:=mkEnA (by kernel_rfl) Tryz.func114 (by kernel_rfl) chk114
def c116:C :=
  (.seq
 (.reg false [p (.box 4 (.v 0)),
 p (.mov (.k (.bool false)))] [(1,.v 1),(2,.r 1)])
 (.seq
 (.reg false [p (.mov (.k (.int .i64 (-1))))] [(1,.v 1),(2,.v 2),(5,.r 0)])
 (.seq
 (.seq
 (.reg false [p (.fad 0 (.v 2)),
 p (.load (none) (.r 0)),
 p (.len false (.r 0)),
 p (.mov (.k (.int .i64 0)))] [(1,.v 1),(2,.v 2),(5,.v 5),(9,.r 2),(10,.r 1),(11,.r 0)])
 (.block 0
 (.loop
 (.seq
 (.reg false [p (.bin .lss (.v 11) (.v 10))] [(1,.v 1),(2,.v 2),(5,.v 5),(9,.v 9),(10,.v 10),(11,.v 11),(12,.r 0)])
 (.seq
 (.cond (.v 12)
 .skip
 (.exit 0))
 (.seq
 (.block 1
 (.seq
 (.reg false [p (.iad 1 (.v 9) (.v 11)),
 p (.load (none) (.r 0)),
 p (.mov (.r 0))] [(1,.v 1),(2,.v 2),(5,.v 5),(7,.r 0),(9,.v 9),(10,.v 10),(11,.v 11)])
 (.seq
 (.seq
 (.reg false [p (.mov (.v 7)),
 p (.mov (.v 5)),
 p (.bin .leq (.r 1) (.r 0)),
 p (.mov (.r 0)),
 ⟨.mov (.v 7),some (0,false),[]⟩,
 ⟨.mov (.v 1),some (1,false),[]⟩,
 ⟨.bin .geq (.r 1) (.r 0),some (2,false),[]⟩,
 p (.pick (.r 3) (.k (.bool true)) (.r 0))] [(1,.v 1),(2,.v 2),(7,.v 7),(9,.v 9),(10,.v 10),(11,.v 11),(22,.r 0)])
 (.cond (.v 22)
 (.seq
 (.reg false [p (.mov (.k (.bool false)))] [(4,.r 0)])
 .ret)
 .skip))
 (.reg false [p (.mov (.v 7)),
 p (.mov (.r 0))] [(1,.v 1),(2,.v 2),(5,.r 0),(9,.v 9),(10,.v 10),(11,.v 11)]))))
 (.reg false [p (.bin .add (.v 11) (.k (.int .i64 1))),
 p (.mov (.r 0))] [(1,.v 1),(2,.v 2),(5,.v 5),(9,.v 9),(10,.v 10),(11,.r 0)])))))))
 (.frz
 (.seq
 (.reg false [p (.fad 1 (.v 2)),
 p (.load (none) (.r 0)),
 p (.bin .geq (.r 0) (.k (.int .i64 1))),
 p (.mov (.r 0)),
 ⟨.fad 1 (.v 2),some (0,true),[]⟩,
 ⟨.load (none) (.r 0),some (1,true),[]⟩,
 ⟨.bin .leq (.r 0) (.k (.int .i64 8)),some (2,true),[]⟩,
 p (.pick (.r 3) (.r 0) (.k (.bool false))),
 p (.mov (.r 0)),
 ⟨.fad 2 (.v 2),some (0,true),[]⟩,
 ⟨.load (none) (.r 0),some (1,true),[]⟩,
 ⟨.bin .geq (.r 0) (.k (.int .i64 0)),some (2,true),[]⟩,
 p (.pick (.r 3) (.r 0) (.k (.bool false))),
 p (.mov (.r 0)),
 ⟨.fad 2 (.v 2),some (0,true),[]⟩,
 ⟨.load (none) (.r 0),some (1,true),[]⟩,
 ⟨.bin .leq (.r 0) (.k (.int .i64 1048576)),some (2,true),[]⟩,
 p (.pick (.r 3) (.r 0) (.k (.bool false))),
 p (.mov (.r 0)),
 ⟨.fad 3 (.v 2),some (0,true),[]⟩,
 ⟨.load (none) (.r 0),some (1,true),[]⟩,
 ⟨.bin .geq (.r 0) (.k (.int .i64 1)),some (2,true),[]⟩,
 p (.pick (.r 3) (.r 0) (.k (.bool false))),
 p (.mov (.r 0)),
 ⟨.fad 3 (.v 2),some (0,true),[]⟩,
 ⟨.load (none) (.r 0),some (1,true),[]⟩,
 ⟨.bin .leq (.r 0) (.k (.int .i64 1048576)),some (2,true),[]⟩,
 p (.pick (.r 3) (.r 0) (.k (.bool false))),
 p (.mov (.r 0))] [(4,.r 0)])
 .ret)))))
def r116:List RV:=[.t 4]
theorem en116:EnP Tryz.prog 116 53 c116 r116:=mkEnP (by kernel_rfl) Tryz.func116 (by kernel_rfl) ⟨_,rfl,by kernel_rfl,by kernel_rfl⟩
def c222:C :=
  (.seq
 (.reg false [p (.mov (.k (.bool false)))] [(0,.v 0),(1,.v 1)])
 (.seq
 (.reg false [p (.load (none) (.v 1)),
 p (.mov (.v 0)),
 p (.iad 1 (.r 1) (.r 0)),
 p (.load (none) (.r 0)),
 p (.un .not (.r 0)),
 p (.mov (.r 0))] [(3,.r 0)])
 .ret))
def r222:List RV:=[.t 3]
theorem chk222:Chk Tryz.prog Tryz.f222 c222 r222:=⟨_,rfl,by kernel_rfl,by kernel_rfl⟩
theorem ena222:EnA Tryz.prog 222 9 c222 r222:=mkEnA (by kernel_rfl) Tryz.func222 (by kernel_rfl) chk222
def c173:C :=
  (.seq
 (.reg false [p (.box 1 (.v 1)),
 p (.mov (.k (.fsl .nil 1 [])))] [(0,.v 0),(3,.r 1)])
 (.seq
 (.reg false [p (.mkf 222 [] [.v 3]),
 p (.mov (.r 0))] [(0,.v 0),(5,.r 0)])
 (.seq
 (.reg false [p (.mov (.k (.fsl .nil 1 [])))] [(0,.v 0),(5,.v 5),(6,.r 0)])
 (.seq
 (.seq
 (.reg false [p (.mov (.v 0)),
 p (.len false (.r 0)),
 p (.mov (.k (.int .i64 0)))] [(5,.v 5),(6,.v 6),(10,.r 2),(11,.r 1),(12,.r 0)])
 (.block 0
 (.loop
 (.seq
 (.reg false [p (.bin .lss (.v 12) (.v 11))] [(5,.v 5),(6,.v 6),(10,.v 10),(11,.v 11),(12,.v 12),(13,.r 0)])
 (.seq
 (.cond (.v 13)
 .skip
 (.exit 0))
 (.seq
 (.block 1
 (.seq
 (.reg false [p (.mov (.v 12)),
 p (.iad 4 (.v 10) (.v 12)),
 p (.load (some 4) (.r 0)),
 p (.alloc 4 (.agg [.fsl .nil 1 [],.int .i64 0,.int .i64 0,.int .i64 0])),
 p (.mov (.r 3)),
 p (.store (some 4) (.r 1) (.r 2))] [(5,.v 5),(6,.v 6),(7,.r 1),(8,.r 2),(10,.v 10),(11,.v 11),(12,.v 12)])
 (.seq
 (.reg false [p (.mov (.v 5)),
 p (.mov (.v 7)),
 p (.call false (.r 1) [.r 0]),
 p (.mov (.r 0)),
 ⟨.fad 0 (.v 8),some (0,true),[]⟩,
 ⟨.load (none) (.r 0),some (1,true),[]⟩,
 ⟨.mov (.v 5),some (2,true),[]⟩,
 ⟨.call false (.k (.fn 175 [] [])) [.r 1,.r 0],some (3,true),[]⟩,
 ⟨.un .not (.r 0),some (4,true),[]⟩,
 p (.pick (.r 5) (.r 0) (.k (.bool false)))] [(5,.v 5),(6,.v 6),(7,.v 7),(10,.v 10),(11,.v 11),(12,.v 12),(26,.r 0)])
 (.cond (.v 26)
 (.reg false [p (.mov (.v 6)),
 p (.mov (.v 7)),
 p (.bsl 1 [.r 0]),
 p (.app 1 8 (.r 2) (.r 0)),
 p (.mov (.r 0))] [(5,.v 5),(6,.r 0),(10,.v 10),(11,.v 11),(12,.v 12)])
 .skip))))
 (.reg false [p (.bin .add (.v 12) (.k (.int .i64 1))),
 p (.mov (.r 0))] [(5,.v 5),(6,.v 6),(10,.v 10),(11,.v 11),(12,.r 0)])))))))
 (.frz
 (.seq
 (.reg false [p (.mov (.v 6)),
 p (.mov (.r 0))] [(4,.r 0)])
 .ret))))))
def r173:List RV:=[.t 4]
theorem chk173:Chk Tryz.prog Tryz.f173 c173 r173:=⟨_,rfl,by kernel_rfl,by kernel_rfl⟩
theorem ena173:EnA Tryz.prog 173 33 c173 r173:=mkEnA (by kernel_rfl) Tryz.func173 (by kernel_rfl) chk173
def c117:C :=
  (.seq
 (.reg false [p (.mov (.k (.fsl .nil 1 [])))] [(0,.v 0)])
 (.seq
 (.reg false [p (.mov (.v 0)),
 p (.len false (.r 0)),
 p (.mks 1 1 (.bool false) (.r 0)),
 p (.mov (.r 0))] [(0,.v 0),(3,.r 0)])
 (.seq
 (.reg false [p (.mov (.k (.fsl .nil 1 [])))] [(0,.v 0),(3,.v 3),(4,.r 0)])
 (.block 0
 (.loop
 (.block 1
 (.seq
 (.reg false [p (.mov (.v 0)),
 p (.mov (.v 3)),
 p (.call false (.k (.fn 173 [] [])) [.r 1,.r 0]),
 p (.mov (.r 0))] [(0,.v 0),(3,.v 3),(4,.v 4),(5,.r 0)])
 (.seq
 (.seq
 (.reg false [p (.mov (.v 5)),
 p (.len false (.r 0)),
 p (.bin .eql (.r 0) (.k (.int .i64 0)))] [(0,.v 0),(3,.v 3),(4,.v 4),(5,.v 5),(14,.r 0)])
 (.cond (.v 14)
 (.seq
 (.reg false [p (.mov (.v 4)),
 p (.mov (.r 0))] [(2,.r 0)])
 .ret)
 .skip))
 (.seq
 (.reg false [p (.mov (.v 3)),
 p (.mov (.v 5)),
 p (.iad 1 (.r 0) (.k (.int .i64 0))),
 p (.load (none) (.r 0)),
 p (.iad 1 (.r 3) (.r 0)),
 p (.store (none) (.r 0) (.k (.bool true)))] [(0,.v 0),(3,.v 3),(4,.v 4),(5,.v 5)])
 (.reg false [p (.mov (.v 4)),
 p (.mov (.v 5)),
 p (.iad 1 (.r 0) (.k (.int .i64 0))),
 p (.load (none) (.r 0)),
 p (.bsl 1 [.r 0]),
 p (.app 1 8 (.r 4) (.r 0)),
 p (.mov (.r 0))] [(0,.v 0),(3,.v 3),(4,.r 0)]))))))))))
def r117:List RV:=[.t 2]
theorem en117:EnP Tryz.prog 117 27 c117 r117:=mkEnP (by kernel_rfl) Tryz.func117 (by kernel_rfl) ⟨_,rfl,by kernel_rfl,by kernel_rfl⟩
def c115:C :=
  (.seq
 (.reg false [p (.box 4 (.v 0)),
 p (.mov (.k (.bool false)))] [(1,.v 1),(2,.r 1)])
 (.seq
 (.reg false [p (.load (some 4) (.v 2)),
 p (.load (none) (.v 1)),
 p (.call true (.k (.fn 116 [] [])) [.r 1,.r 0]),
 p (.un .not (.r 0)),
 p (.mov (.r 0))] [(3,.r 0)])
 .ret))
def r115:List RV:=[.t 3]
theorem chk115:Chk Tryz.prog Tryz.f115 c115 r115:=⟨_,rfl,by kernel_rfl,by kernel_rfl⟩
theorem ena115:EnA Tryz.prog 115 8 c115 r115:=mkEnA (by kernel_rfl) Tryz.func115 (by kernel_rfl) chk115
def c54:C :=
  (.seq
 (.reg false [p (.box 2 (.v 0)),
 p (.mov (.k (.int .i64 0)))] [(1,.r 1)])
 (.seq
 (.reg false [p (.fad 1 (.v 1)),
 p (.load (none) (.r 0)),
 p (.len false (.r 0)),
 p (.alloc 1 (.int .i64 0)),
 p (.store (none) (.r 0) (.r 1))] [(1,.v 1),(3,.r 1)])
 (.seq
 (.block 0
 (.seq
 (.reg false [p (.load (none) (.v 3)),
 p (.bin .gtr (.r 0) (.k (.int .i64 10))),
 p (.mov (.r 0))] [(1,.v 1),(3,.v 3),(7,.r 0)])
 (.cond (.v 7)
 (.seq
 (.reg false [p (.mov (.k (.int .i64 2)))] [(2,.r 0)])
 .ret)
 (.seq
 (.reg false [p (.load (none) (.v 3)),
 p (.bin .lss (.r 0) (.k (.int .i64 1))),
 p (.mov (.r 0)),
 ⟨.fad 0 (.v 1),some (0,false),[]⟩,
 ⟨.load (none) (.r 0),some (1,false),[]⟩,
 ⟨.len true (.r 0),some (2,false),[]⟩,
 ⟨.bin .lss (.r 0) (.k (.int .i64 1)),some (3,false),[]⟩,
 p (.pick (.r 4) (.k (.bool true)) (.r 0)),
 p (.mov (.r 0)),
 ⟨.fad 0 (.v 1),some (0,false),[]⟩,
 ⟨.load (none) (.r 0),some (1,false),[]⟩,
 ⟨.len true (.r 0),some (2,false),[]⟩,
 ⟨.bin .gtr (.r 0) (.k (.int .i64 16)),some (3,false),[]⟩,
 p (.pick (.r 4) (.k (.bool true)) (.r 0)),
 p (.mov (.r 0)),
 ⟨.fad 1 (.v 1),some (0,false),[]⟩,
 ⟨.load (none) (.r 0),some (1,false),[]⟩,
 ⟨.mkf 115 [] [.v 3],some (2,false),[]⟩,
 ⟨.call false (.k (.fn 114 [] [])) [.r 1,.r 0],some (3,false),[]⟩,
 p (.pick (.r 4) (.k (.bool true)) (.r 0)),
 p (.mov (.r 0))] [(1,.v 1),(3,.v 3),(10,.r 0)])
 (.cond (.v 10)
 (.seq
 (.reg false [p (.mov (.k (.int .i64 1)))] [(2,.r 0)])
 .ret)
 (.seq
 (.reg true [p (.fad 1 (.v 1)),
 p (.load (none) (.r 0)),
 p (.call true (.k (.fn 117 [] [])) [.r 0]),
 p (.len false (.r 0)),
 p (.load (none) (.v 3)),
 p (.bin .lss (.r 1) (.r 0)),
 p (.mov (.r 0))] [(31,.r 0)])
 (.cond (.v 31)
 (.seq
 (.reg false [p (.mov (.k (.int .i64 160)))] [(2,.r 0)])
 .ret)
 .skip)))))))
 (.seq
 (.reg false [p (.mov (.k (.int .i64 0)))] [(2,.r 0)])
 .ret))))
def r54:List RV:=[.t 2]
theorem en54:EnP Tryz.prog 54 38 c54 r54:=mkEnP (by kernel_rfl) Tryz.func54 (by kernel_rfl) ⟨_,rfl,by kernel_rfl,by kernel_rfl⟩
def c137:C :=
  (.seq
 (.reg false [p (.box 5 (.v 0)),
 p (.mov (.k (.bool false)))] [(1,.r 1)])
 (.seq
 (.seq
 (.reg false [p (.fad 0 (.v 1)),
 p (.load (none) (.r 0)),
 p (.bin .lss (.r 0) (.k (.int .i64 0))),
 p (.mov (.r 0)),
 ⟨.fad 0 (.v 1),some (0,false),[]⟩,
 ⟨.load (none) (.r 0),some (1,false),[]⟩,
 ⟨.bin .gtr (.r 0) (.k (.int .i64 5)),some (2,false),[]⟩,
 p (.pick (.r 3) (.k (.bool true)) (.r 0)),
 p (.mov (.r 0)),
 ⟨.fad 1 (.v 1),some (0,false),[]⟩,
 ⟨.load (none) (.r 0),some (1,false),[]⟩,
 ⟨.bin .lss (.r 0) (.k (.int .i64 0)),some (2,false),[]⟩,
 p (.pick (.r 3) (.k (.bool true)) (.r 0)),
 p (.mov (.r 0)),
 ⟨.fad 1 (.v 1),some (0,false),[]⟩,
 ⟨.load (none) (.r 0),some (1,false),[]⟩,
 ⟨.bin .gtr (.r 0) (.k (.int .i64 8)),some (2,false),[]⟩,
 p (.pick (.r 3) (.k (.bool true)) (.r 0)),
 p (.mov (.r 0)),
 ⟨.fad 2 (.v 1),some (0,false),[]⟩,
 ⟨.load (none) (.r 0),some (1,false),[]⟩,
 ⟨.bin .lss (.r 0) (.k (.int .i64 0)),some (2,false),[]⟩,
 p (.pick (.r 3) (.k (.bool true)) (.r 0)),
 p (.mov (.r 0)),
 ⟨.fad 2 (.v 1),some (0,false),[]⟩,
 ⟨.load (none) (.r 0),some (1,false),[]⟩,
 ⟨.bin .gtr (.r 0) (.k (.int .i64 1099511627776)),some (2,false),[]⟩,
 p (.pick (.r 3) (.k (.bool true)) (.r 0))] [(1,.v 1),(30,.r 0)])
 (.cond (.v 30)
 (.seq
 (.reg false [p (.mov (.k (.bool false)))] [(2,.r 0)])
 .ret)
 .skip))
 (.seq
 (.seq
 (.reg false [p (.fad 3 (.v 1)),
 p (.load (none) (.r 0)),
 p (.bin .lss (.r 0) (.k (.int .i64 0))),
 p (.mov (.r 0)),
 ⟨.fad 3 (.v 1),some (0,false),[]⟩,
 ⟨.load (none) (.r 0),some (1,false),[]⟩,
 ⟨.bin .gtr (.r 0) (.k (.int .i64 1099511627776)),some (2,false),[]⟩,
 p (.pick (.r 3) (.k (.bool true)) (.r 0)),
 p (.mov (.r 0)),
 ⟨.fad 3 (.v 1),some (0,false),[]⟩,
 ⟨.load (none) (.r 0),some (1,false),[]⟩,
 ⟨.bin .gtr (.r 0) (.k (.int .i64 0)),some (2,false),[]⟩,
 ⟨.fad 0 (.v 1),some (3,false),[]⟩,
 ⟨.load (none) (.r 0),some (4,false),[]⟩,
 ⟨.bin .eql (.r 0) (.k (.int .i64 2)),some (5,false),[]⟩,
 ⟨.eqb true (.r 3) (.r 0),some (6,false),[]⟩,
 p (.pick (.r 7) (.k (.bool true)) (.r 0))] [(1,.v 1),(47,.r 0)])
 (.cond (.v 47)
 (.seq
 (.reg false [p (.mov (.k (.bool false)))] [(2,.r 0)])
 .ret)
 .skip))
 (.seq
 (.reg false [p (.fad 4 (.v 1)),
 p (.load (none) (.r 0)),
 p (.len true (.r 0)),
 p (.bin .leq (.r 0) (.k (.int .i64 16))),
 p (.mov (.r 0)),
 ⟨.fad 4 (.v 1),some (0,true),[]⟩,
 ⟨.load (none) (.r 0),some (1,true),[]⟩,
 ⟨.bin .eql (.r 0) (.k (.str [])),some (2,true),[]⟩,
 ⟨.mov (.r 0),some (3,true),[]⟩,
 ⟨.fad 0 (.v 1),some (0,false),[]⟩,
 ⟨.load (none) (.r 0),some (1,false),[]⟩,
 ⟨.bin .eql (.r 0) (.k (.int .i64 3)),some (2,false),[]⟩,
 ⟨.pick (.r 3) (.k (.bool true)) (.r 0),some (7,true),[]⟩,
 p (.pick (.r 8) (.r 0) (.k (.bool false))),
 p (.mov (.r 0))] [(2,.r 0)])
 .ret))))
def r137:List RV:=[.t 2]
theorem en137:EnP Tryz.prog 137 62 c137 r137:=mkEnP (by kernel_rfl) Tryz.func137 (by kernel_rfl) ⟨_,rfl,by kernel_rfl,by kernel_rfl⟩
def c237:C :=
  (.seq
 (.reg false [p (.mov (.k (.int .i64 0)))] [(0,.v 0),(1,.v 1)])
 (.seq
 (.seq
 (.reg false [p (.mov (.v 0)),
 p (.bin .lss (.r 0) (.k (.int .i64 1))),
 p (.mov (.r 0)),
 ⟨.mov (.v 1),some (0,false),[]⟩,
 ⟨.bin .lss (.r 0) (.k (.int .i64 1)),some (1,false),[]⟩,
 p (.pick (.r 2) (.k (.bool true)) (.r 0))] [(0,.v 0),(1,.v 1),(10,.r 0)])
 (.cond (.v 10)
 (.seq
 (.reg false [p (.mov (.k (.int .i64 0)))] [(4,.r 0)])
 .ret)
 .skip))
 (.seq
 (.reg false [p (.mov (.v 0)),
 p (.mnx false (.r 0) [.k (.int .i64 1048576)]),
 p (.mov (.r 0))] [(0,.r 0),(1,.v 1)])
 (.seq
 (.block 0
 (.loop
 (.seq
 (.seq
 (.reg false [p (.mov (.v 1)),
 p (.bin .gtr (.r 0) (.k (.int .i64 1))),
 p (.mov (.r 0)),
 ⟨.mov (.v 0),some (0,true),[]⟩,
 ⟨.bin .lss (.r 0) (.k (.int .i64 1048576)),some (1,true),[]⟩,
 p (.pick (.r 2) (.r 0) (.k (.bool false)))] [(0,.v 0),(1,.v 1),(18,.r 0)])
 (.cond (.v 18)
 .skip
 (.exit 0)))
 (.seq
 (.block 1
 (.reg false [p (.mov (.v 0)),
 p (.bin .mul (.r 0) (.k (.int .i64 2))),
 p (.mov (.r 0))] [(0,.r 0),(1,.v 1)]))
 (.reg false [p (.mov (.v 1)),
 p (.bin .sub (.r 0) (.k (.int .i64 1))),
 p (.mov (.r 0))] [(0,.v 0),(1,.r 0)])))))
 (.frz
 (.seq
 (.reg false [p (.mov (.v 0)),
 p (.mnx false (.r 0) [.k (.int .i64 1048576)]),
 p (.mov (.r 0))] [(4,.r 0)])
 .ret))))))
def r237:List RV:=[.t 4]
theorem en237:EnP Tryz.prog 237 25 c237 r237:=mkEnP (by kernel_rfl) Tryz.func237 (by kernel_rfl) ⟨_,rfl,by kernel_rfl,by kernel_rfl⟩
def c236:C :=
  (.seq
 (.reg false [p (.mov (.k (.int .i64 0)))] [(0,.v 0),(1,.v 1)])
 (.seq
 (.reg false [p (.mov (.k (.int .i64 0)))] [(0,.v 0),(1,.v 1),(5,.r 0)])
 (.seq
 (.seq
 (.reg false [p (.mov (.v 0)),
 p (.bsl 1 [.r 0]),
 p (.mov (.v 1)),
 p (.app 1 8 (.r 1) (.r 0)),
 p (.len false (.r 0)),
 p (.mov (.k (.int .i64 0)))] [(5,.v 5),(11,.r 2),(12,.r 1),(13,.r 0)])
 (.frz
 (.block 0
 (.loop
 (.seq
 (.reg false [p (.bin .lss (.v 13) (.v 12))] [(5,.v 5),(11,.v 11),(12,.v 12),(13,.v 13),(14,.r 0)])
 (.seq
 (.cond (.v 14)
 .skip
 (.exit 0))
 (.seq
 (.block 1
 (.seq
 (.reg false [p (.iad 1 (.v 11) (.v 13)),
 p (.load (none) (.r 0)),
 p (.mov (.r 0))] [(5,.v 5),(7,.r 0),(11,.v 11),(12,.v 12),(13,.v 13)])
 (.reg false [p (.mov (.v 5)),
 p (.mov (.v 7)),
 p (.mnx true (.r 0) [.k (.int .i64 0)]),
 p (.mnx false (.r 0) [.k (.int .i64 1099511627776)]),
 p (.bin .add (.r 3) (.r 0)),
 p (.mnx false (.r 0) [.k (.int .i64 1099511627776)]),
 p (.mov (.r 0))] [(5,.r 0),(11,.v 11),(12,.v 12),(13,.v 13)])))
 (.reg false [p (.bin .add (.v 13) (.k (.int .i64 1))),
 p (.mov (.r 0))] [(5,.v 5),(11,.v 11),(12,.v 12),(13,.r 0)]))))))))
 (.frz
 (.seq
 (.reg false [p (.mov (.v 5)),
 p (.mov (.r 0))] [(4,.r 0)])
 .ret)))))
def r236:List RV:=[.t 4]
theorem en236:EnP Tryz.prog 236 25 c236 r236:=mkEnP (by kernel_rfl) Tryz.func236 (by kernel_rfl) ⟨_,rfl,by kernel_rfl,by kernel_rfl⟩
def c126:C :=
  (.seq
 (.reg false [p (.box 4 (.v 0)),
 p (.box 5 (.v 1)),
 p (.mov (.k (.bool false)))] [(2,.r 2),(3,.r 1)])
 (.seq
 (.seq
 (.reg false [p (.load (some 5) (.v 3)),
 p (.call true (.k (.fn 137 [] [])) [.r 0]),
 p (.un .not (.r 0)),
 p (.mov (.r 0)),
 ⟨.fad 1 (.v 3),some (0,false),[]⟩,
 ⟨.load (none) (.r 0),some (1,false),[]⟩,
 ⟨.fad 1 (.v 2),some (2,false),[]⟩,
 ⟨.load (none) (.r 0),some (3,false),[]⟩,
 ⟨.bin .gtr (.r 2) (.r 0),some (4,false),[]⟩,
 p (.pick (.r 5) (.k (.bool true)) (.r 0))] [(2,.v 2),(3,.v 3),(14,.r 0)])
 (.cond (.v 14)
 (.seq
 (.reg false [p (.mov (.k (.bool false)))] [(4,.r 0)])
 .ret)
 .skip))
 (.seq
 (.seq
 (.reg false [p (.fad 0 (.v 3)),
 p (.load (none) (.r 0))] [(2,.v 2),(3,.v 3),(16,.r 0)])
 (.block 0
 (.seq
 (.block 5
 (.seq
 (.block 4
 (.seq
 (.block 3
 (.seq
 (.block 2
 (.seq
 (.block 1
 (.seq
 (.seq
 (.seq
 (.reg false [p (.bin .eql (.v 16) (.k (.int .i64 0))),
 p (.mov (.r 0))] [(2,.v 2),(3,.v 3),(16,.v 16),(17,.r 0)])
 (.cond (.v 17)
 (.exit 1)
 .skip))
 (.seq
 (.seq
 (.reg false [p (.bin .eql (.v 16) (.k (.int .i64 1))),
 p (.mov (.r 0))] [(2,.v 2),(3,.v 3),(16,.v 16),(19,.r 0)])
 (.cond (.v 19)
 (.exit 2)
 .skip))
 (.seq
 (.seq
 (.reg false [p (.bin .eql (.v 16) (.k (.int .i64 2))),
 p (.mov (.r 0))] [(2,.v 2),(3,.v 3),(16,.v 16),(21,.r 0)])
 (.cond (.v 21)
 (.exit 3)
 .skip))
 (.seq
 (.seq
 (.reg false [p (.bin .eql (.v 16) (.k (.int .i64 4))),
 p (.mov (.r 0))] [(2,.v 2),(3,.v 3),(16,.v 16),(23,.r 0)])
 (.cond (.v 23)
 (.exit 4)
 .skip))
 (.seq
 (.reg false [p (.bin .eql (.v 16) (.k (.int .i64 5))),
 p (.mov (.r 0))] [(3,.v 3),(25,.r 0)])
 (.cond (.v 25)
 (.exit 5)
 .skip))))))
 (.exit 0)))
 (.seq
 (.seq
 (.reg false [p (.load (some 5) (.v 3)),
 p (.build [.int .i64 0,.int .i64 0,.int .i64 0,.int .i64 0,.str []] []),
 p (.eqs false [0,0,0,0,1] (.r 1) (.r 0)),
 p (.mov (.r 0))] [(4,.r 0)])
 .ret)
 (.exit 0))))
 (.seq
 (.seq
 (.reg false [p (.fad 1 (.v 3)),
 p (.load (none) (.r 0)),
 p (.fad 1 (.v 2)),
 p (.load (none) (.r 0)),
 p (.bin .lss (.r 2) (.r 0)),
 p (.mov (.r 0))] [(4,.r 0)])
 .ret)
 (.exit 0))))
 (.seq
 (.seq
 (.reg false [p (.fad 1 (.v 3)),
 p (.load (none) (.r 0)),
 p (.bin .geq (.r 0) (.k (.int .i64 1))),
 p (.mov (.r 0))] [(4,.r 0)])
 .ret)
 (.exit 0))))
 (.seq
 (.reg false [p (.fad 1 (.v 3)),
 p (.load (none) (.r 0)),
 p (.fad 1 (.v 2)),
 p (.load (none) (.r 0)),
 p (.bin .neq (.r 2) (.r 0))] [(3,.v 3),(42,.r 0)])
 (.cond (.v 42)
 (.seq
 (.reg false [p (.mov (.k (.bool false)))] [(4,.r 0)])
 .ret)
 .skip))))
 (.seq
 (.seq
 (.reg false [p (.fad 2 (.v 3)),
 p (.load (none) (.r 0)),
 p (.bin .eql (.r 0) (.k (.int .i64 0))),
 p (.mov (.r 0))] [(4,.r 0)])
 .ret)
 (.exit 0)))))
 (.seq
 (.reg false [p (.fad 1 (.v 3)),
 p (.load (none) (.r 0)),
 p (.bin .geq (.r 0) (.k (.int .i64 1))),
 p (.mov (.r 0)),
 ⟨.fad 2 (.v 3),some (0,true),[]⟩,
 ⟨.load (none) (.r 0),some (1,true),[]⟩,
 ⟨.bin .eql (.r 0) (.k (.int .i64 0)),some (2,true),[]⟩,
 p (.pick (.r 3) (.r 0) (.k (.bool false))),
 p (.mov (.r 0))] [(4,.r 0)])
 .ret))))
def r126:List RV:=[.t 4]
theorem en126:EnP Tryz.prog 126 54 c126 r126:=mkEnP (by kernel_rfl) Tryz.func126 (by kernel_rfl) ⟨_,rfl,by kernel_rfl,by kernel_rfl⟩
def c233:C :=
  (.seq
 (.reg false [p (.box 5 (.v 0)),
 p (.alloc 5 (.agg [.int .i64 0,.int .i64 0,.int .i64 0,.int .i64 0,.str []]))] [(1,.r 1),(2,.r 0)])
 (.seq
 (.seq
 (.reg false [p (.fad 0 (.v 1)),
 p (.load (none) (.r 0)),
 p (.bin .eql (.r 0) (.k (.int .i64 0)))] [(1,.v 1),(2,.v 2),(5,.r 0)])
 (.cond (.v 5)
 (.reg false [p (.fad 0 (.v 1)),
 p (.store (none) (.r 0) (.k (.int .i64 1)))] [(1,.v 1),(2,.v 2)])
 .skip))
 (.seq
 (.reg false [p (.load (some 5) (.v 1)),
 p (.store (some 5) (.v 2) (.r 0))] [(2,.v 2)])
 .ret)))
def r233:List RV:=[.c 2 (some 5)]
theorem en233:EnP Tryz.prog 233 8 c233 r233:=mkEnP (by kernel_rfl) Tryz.func233 (by kernel_rfl) ⟨_,rfl,by kernel_rfl,by kernel_rfl⟩
def c205:C :=
  (.seq
 (.reg false [p (.box 4 (.v 0)),
 p (.box 5 (.v 1)),
 p (.alloc 5 (.agg [.int .i64 0,.int .i64 0,.int .i64 0,.int .i64 0,.str []])),
 p (.mov (.k (.int .i64 0)))] [(2,.v 2),(3,.v 3),(4,.r 3),(5,.r 2),(8,.r 1)])
 (.seq
 (.block 0
 (.seq
 (.reg false [p (.mov (.v 3)),
 p (.bin .lss (.r 0) (.k (.int .i64 1))),
 p (.mov (.r 0)),
 ⟨.mov (.v 3),some (0,false),[]⟩,
 ⟨.bin .gtr (.r 0) (.k (.int .i64 1099511627776)),some (1,false),[]⟩,
 p (.pick (.r 2) (.k (.bool true)) (.r 0)),
 p (.mov (.r 0))] [(2,.v 2),(3,.v 3),(4,.v 4),(5,.v 5),(8,.v 8),(10,.r 0)])
 (.cond (.v 10)
 (.seq
 (.reg false [p (.build [.int .i64 0,.int .i64 0,.int .i64 0,.int .i64 0,.str []] []),
 p (.store (some 5) (.v 8) (.r 0)),
 p (.mov (.k (.int .i64 1)))] [(8,.v 8),(9,.r 0)])
 .ret)
 (.seq
 (.reg true [p (.fad 0 (.v 5)),
 p (.load (none) (.r 0)),
 p (.bin .neq (.r 0) (.k (.int .i64 1))),
 p (.mov (.r 0)),
 ⟨.fad 2 (.v 5),some (0,false),[]⟩,
 ⟨.load (none) (.r 0),some (1,false),[]⟩,
 ⟨.mov (.v 2),some (2,false),[]⟩,
 ⟨.call true (.k (.fn 236 [] [])) [.r 0,.k (.fsl .nil 1 [])],some (3,false),[]⟩,
 ⟨.bin .gtr (.r 2) (.r 0),some (4,false),[]⟩,
 p (.pick (.r 5) (.k (.bool true)) (.r 0)),
 p (.mov (.r 0))] [(2,.v 2),(3,.v 3),(4,.v 4),(5,.v 5),(8,.v 8),(18,.r 0)])
 (.cond (.v 18)
 (.seq
 (.reg false [p (.build [.int .i64 0,.int .i64 0,.int .i64 0,.int .i64 0,.str []] []),
 p (.store (some 5) (.v 8) (.r 0)),
 p (.mov (.k (.int .i64 192)))] [(8,.v 8),(9,.r 0)])
 .ret)
 .skip)))))
 (.seq
 (.reg false [p (.mov (.v 2)),
 p (.fad 3 (.v 4)),
 p (.load (none) (.r 0)),
 p (.bsl 1 [.r 0]),
 p (.call true (.k (.fn 236 [] [])) [.r 3,.r 0]),
 p (.mov (.v 3)),
 p (.fad 0 (.v 5)),
 p (.store (none) (.r 0) (.k (.int .i64 2))),
 p (.fad 2 (.v 5)),
 p (.store (none) (.r 0) (.r 4)),
 p (.fad 3 (.v 5)),
 p (.store (none) (.r 0) (.r 5))] [(5,.v 5),(8,.v 8)])
 (.seq
 (.reg false [p (.fad 1 (.v 5)),
 p (.load (none) (.r 0)),
 p (.bin .add (.r 0) (.k (.int .i64 1))),
 p (.fad 1 (.v 5)),
 p (.store (none) (.r 0) (.r 1))] [(5,.v 5),(8,.v 8)])
 (.seq
 (.reg false [p (.load (some 5) (.v 5)),
 p (.store (some 5) (.v 8) (.r 0)),
 p (.mov (.k (.int .i64 0)))] [(8,.v 8),(9,.r 0)])
 .ret)))))
def r205:List RV:=[.c 8 (some 5),.t 9]
theorem en205:EnP Tryz.prog 205 44 c205 r205:=mkEnP (by kernel_rfl) Tryz.func205 (by kernel_rfl) ⟨_,rfl,by kernel_rfl,by kernel_rfl⟩
def c212:C :=
  (.seq
 (.reg false [p (.box 4 (.v 0)),
 p (.box 5 (.v 1)),
 p (.alloc 5 (.agg [.int .i64 0,.int .i64 0,.int .i64 0,.int .i64 0,.str []])),
 p (.mov (.k (.int .i64 0)))] [(2,.v 2),(3,.r 3),(4,.r 2),(6,.r 1)])
 (.seq
 (.seq
 (.reg false [p (.fad 0 (.v 4)),
 p (.load (none) (.r 0)),
 p (.bin .neq (.r 0) (.k (.int .i64 2)))] [(2,.v 2),(3,.v 3),(4,.v 4),(6,.v 6),(10,.r 0)])
 (.cond (.v 10)
 (.seq
 (.reg false [p (.build [.int .i64 0,.int .i64 0,.int .i64 0,.int .i64 0,.str []] []),
 p (.store (some 5) (.v 6) (.r 0)),
 p (.mov (.k (.int .i64 191)))] [(6,.v 6),(7,.r 0)])
 .ret)
 .skip))
 (.seq
 (.reg false [p (.mov (.v 2)),
 p (.fad 3 (.v 3)),
 p (.load (none) (.r 0)),
 p (.bsl 1 [.r 0]),
 p (.call true (.k (.fn 236 [] [])) [.r 3,.r 0]),
 p (.fad 2 (.v 4)),
 p (.store (none) (.r 0) (.r 1))] [(4,.v 4),(6,.v 6)])
 (.seq
 (.reg false [p (.load (some 5) (.v 4)),
 p (.store (some 5) (.v 6) (.r 0)),
 p (.mov (.k (.int .i64 0)))] [(6,.v 6),(7,.r 0)])
 .ret))))
def r212:List RV:=[.c 6 (some 5),.t 7]
theorem en212:EnP Tryz.prog 212 19 c212 r212:=mkEnP (by kernel_rfl) Tryz.func212 (by kernel_rfl) ⟨_,rfl,by kernel_rfl,by kernel_rfl⟩
def c214:C :=
  (.seq
 (.reg false [p (.box 4 (.v 0)),
 p (.box 5 (.v 1)),
 p (.alloc 5 (.agg [.int .i64 0,.int .i64 0,.int .i64 0,.int .i64 0,.str []])),
 p (.mov (.k (.int .i64 0)))] [(2,.v 2),(4,.r 2),(6,.r 1)])
 (.seq
 (.block 0
 (.seq
 (.reg false [p (.fad 0 (.v 4)),
 p (.load (none) (.r 0)),
 p (.bin .neq (.r 0) (.k (.int .i64 2))),
 p (.mov (.r 0))] [(2,.v 2),(4,.v 4),(6,.v 6),(8,.r 0)])
 (.cond (.v 8)
 (.seq
 (.reg false [p (.build [.int .i64 0,.int .i64 0,.int .i64 0,.int .i64 0,.str []] []),
 p (.store (some 5) (.v 6) (.r 0)),
 p (.mov (.k (.int .i64 191)))] [(6,.v 6),(7,.r 0)])
 .ret)
 (.seq
 (.reg false [p (.mov (.v 2)),
 p (.len true (.r 0)),
 p (.bin .gtr (.r 0) (.k (.int .i64 16))),
 p (.mov (.r 0))] [(2,.v 2),(4,.v 4),(6,.v 6),(13,.r 0)])
 (.cond (.v 13)
 (.seq
 (.reg false [p (.build [.int .i64 0,.int .i64 0,.int .i64 0,.int .i64 0,.str []] []),
 p (.store (some 5) (.v 6) (.r 0)),
 p (.mov (.k (.int .i64 1)))] [(6,.v 6),(7,.r 0)])
 .ret)
 .skip)))))
 (.seq
 (.reg false [p (.fad 1 (.v 4)),
 p (.load (none) (.r 0)),
 p (.mov (.v 2)),
 p (.build [.int .i64 0,.int .i64 0,.int .i64 0,.int .i64 0,.str []] [(0,1,.k (.int .i64 3)),(1,1,.r 1),(4,1,.r 0)]),
 p (.store (some 5) (.v 6) (.r 0)),
 p (.mov (.k (.int .i64 0)))] [(6,.v 6),(7,.r 0)])
 .ret)))
def r214:List RV:=[.c 6 (some 5),.t 7]
theorem en214:EnP Tryz.prog 214 22 c214 r214:=mkEnP (by kernel_rfl) Tryz.func214 (by kernel_rfl) ⟨_,rfl,by kernel_rfl,by kernel_rfl⟩
def c216:C :=
  (.seq
 (.reg false [p (.box 4 (.v 0)),
 p (.box 5 (.v 1)),
 p (.alloc 5 (.agg [.int .i64 0,.int .i64 0,.int .i64 0,.int .i64 0,.str []])),
 p (.mov (.k (.int .i64 0)))] [(2,.v 2),(3,.r 3),(4,.r 2),(6,.r 1)])
 (.seq
 (.block 0
 (.seq
 (.reg false [p (.fad 0 (.v 4)),
 p (.load (none) (.r 0)),
 p (.bin .neq (.r 0) (.k (.int .i64 2))),
 p (.mov (.r 0))] [(2,.v 2),(3,.v 3),(4,.v 4),(6,.v 6),(8,.r 0)])
 (.cond (.v 8)
 (.seq
 (.reg false [p (.build [.int .i64 0,.int .i64 0,.int .i64 0,.int .i64 0,.str []] []),
 p (.store (some 5) (.v 6) (.r 0)),
 p (.mov (.k (.int .i64 191)))] [(6,.v 6),(7,.r 0)])
 .ret)
 (.seq
 (.reg false [p (.fad 1 (.v 4)),
 p (.load (none) (.r 0)),
 p (.fad 1 (.v 3)),
 p (.load (none) (.r 0)),
 p (.bin .geq (.r 2) (.r 0)),
 p (.mov (.r 0))] [(2,.v 2),(3,.v 3),(4,.v 4),(6,.v 6),(13,.r 0)])
 (.cond (.v 13)
 (.seq
 (.reg false [p (.fad 1 (.v 4)),
 p (.load (none) (.r 0)),
 p (.fad 4 (.v 4)),
 p (.load (none) (.r 0)),
 p (.build [.int .i64 0,.int .i64 0,.int .i64 0,.int .i64 0,.str []] [(0,1,.k (.int .i64 4)),(1,1,.r 2),(4,1,.r 0)]),
 p (.store (some 5) (.v 6) (.r 0)),
 p (.mov (.k (.int .i64 0)))] [(6,.v 6),(7,.r 0)])
 .ret)
 .skip)))))
 (.seq
 (.reg true [p (.fad 1 (.v 4)),
 p (.load (none) (.r 0)),
 p (.mov (.v 2)),
 p (.fad 2 (.v 3)),
 p (.load (none) (.r 0)),
 p (.fad 1 (.v 4)),
 p (.load (none) (.r 0)),
 p (.call true (.k (.fn 237 [] [])) [.r 2,.r 0]),
 p (.bsl 1 [.r 0]),
 p (.call true (.k (.fn 236 [] [])) [.r 6,.r 0]),
 p (.fad 4 (.v 4)),
 p (.load (none) (.r 0)),
 p (.build [.int .i64 0,.int .i64 0,.int .i64 0,.int .i64 0,.str []] [(0,1,.k (.int .i64 1)),(1,1,.r 10),(2,1,.r 2),(4,1,.r 0)]),
 p (.store (some 5) (.v 6) (.r 0)),
 p (.mov (.k (.int .i64 0)))] [(6,.v 6),(7,.r 0)])
 .ret)))
def r216:List RV:=[.c 6 (some 5),.t 7]
theorem en216:EnP Tryz.prog 216 37 c216 r216:=mkEnP (by kernel_rfl) Tryz.func216 (by kernel_rfl) ⟨_,rfl,by kernel_rfl,by kernel_rfl⟩
def c219:C :=
  (.seq
 (.reg false [p (.box 4 (.v 0)),
 p (.box 5 (.v 1)),
 p (.alloc 5 (.agg [.int .i64 0,.int .i64 0,.int .i64 0,.int .i64 0,.str []]))] [(2,.v 2),(3,.r 2),(4,.r 1),(6,.r 0)])
 (.seq
 (.seq
 (.reg true [p (.fad 0 (.v 4)),
 p (.load (none) (.r 0)),
 p (.bin .neq (.r 0) (.k (.int .i64 2))),
 p (.mov (.r 0)),
 ⟨.fad 2 (.v 4),some (0,false),[]⟩,
 ⟨.load (none) (.r 0),some (1,false),[]⟩,
 ⟨.mov (.v 2),some (2,false),[]⟩,
 ⟨.call true (.k (.fn 236 [] [])) [.r 0,.k (.fsl .nil 1 [])],some (3,false),[]⟩,
 ⟨.bin .gtr (.r 2) (.r 0),some (4,false),[]⟩,
 p (.pick (.r 5) (.k (.bool true)) (.r 0))] [(3,.v 3),(4,.v 4),(6,.v 6),(18,.r 0)])
 (.cond (.v 18)
 (.seq
 (.reg false [p (.load (some 5) (.v 4)),
 p (.store (some 5) (.v 6) (.r 0))] [(6,.v 6)])
 .ret)
 .skip))
 (.seq
 (.reg false [p (.load (some 4) (.v 3)),
 p (.load (some 5) (.v 4)),
 p (.fad 2 (.v 4)),
 p (.load (none) (.r 0)),
 p (.call true (.k (.fn 216 [] [])) [.r 3,.r 2,.r 0]),
 p (.mov (.r 0)),
 p (.ext (.r 0) 0),
 p (.ext (.r 1) 1),
 p (.alloc 5 (.agg [.int .i64 0,.int .i64 0,.int .i64 0,.int .i64 0,.str []])),
 p (.store (some 5) (.r 0) (.r 2)),
 p (.mov (.r 2))] [(6,.v 6),(7,.r 2)])
 (.seq
 (.reg false [p (.load (some 5) (.v 7)),
 p (.store (some 5) (.v 6) (.r 0))] [(6,.v 6)])
 .ret))))
def r219:List RV:=[.c 6 (some 5)]
theorem en219:EnP Tryz.prog 219 29 c219 r219:=mkEnP (by kernel_rfl) Tryz.func219 (by kernel_rfl) ⟨_,rfl,by kernel_rfl,by kernel_rfl⟩
def c217:C :=
  (.seq
 (.reg false [p (.box 5 (.v 0)),
 p (.alloc 5 (.agg [.int .i64 0,.int .i64 0,.int .i64 0,.int .i64 0,.str []]))] [(1,.r 1),(2,.r 0)])
 (.seq
 (.seq
 (.reg false [p (.fad 0 (.v 1)),
 p (.load (none) (.r 0))] [(1,.v 1),(2,.v 2),(4,.r 0)])
 (.block 0
 (.seq
 (.seq
 (.reg false [p (.bin .eql (.v 4) (.k (.int .i64 0))),
 p (.mov (.r 0))] [(1,.v 1),(2,.v 2),(4,.v 4),(5,.r 0)])
 (.cond (.v 5)
 .skip
 (.seq
 (.reg false [p (.bin .eql (.v 4) (.k (.int .i64 1))),
 p (.mov (.r 0))] [(1,.v 1),(2,.v 2),(4,.v 4),(5,.r 0)])
 (.cond (.v 5)
 .skip
 (.reg false [p (.bin .eql (.v 4) (.k (.int .i64 2))),
 p (.mov (.r 0))] [(1,.v 1),(2,.v 2),(5,.r 0)])))))
 (.cond (.v 5)
 (.reg false [p (.fad 0 (.v 1)),
 p (.store (none) (.r 0) (.k (.int .i64 5))),
 p (.fad 2 (.v 1)),
 p (.store (none) (.r 0) (.k (.int .i64 0))),
 p (.fad 3 (.v 1)),
 p (.store (none) (.r 0) (.k (.int .i64 0)))] [(1,.v 1),(2,.v 2)])
 .skip))))
 (.seq
 (.reg false [p (.load (some 5) (.v 1)),
 p (.store (some 5) (.v 2) (.r 0))] [(2,.v 2)])
 .ret)))
def r217:List RV:=[.c 2 (some 5)]
theorem en217:EnP Tryz.prog 217 13 c217 r217:=mkEnP (by kernel_rfl) Tryz.func217 (by kernel_rfl) ⟨_,rfl,by kernel_rfl,by kernel_rfl⟩
section
abbrev Str:=List UInt8
structure Task where
  needs:List Int
  tries:Int
  wait:Int
  lease:Int
structure Dag where
  name:Str
  tasks:List Task
structure Stt where
  is:Int
  tried:Int
  due:Int
  token:Int
  result:Str
structure Rn where
  key:Str
  dag:Dag
  is:Int
  states:List Stt
structure Wd where
  now:Int
  token:Int
  dags:List Dag
  runs:List Rn
structure Cmd where
  kind:Int
  key:Str
  name:Str
  token:Int
  time:Int
  text:Str
  dag:Dag
structure Ans where
  why:Int
  key:Str
  task:Int
  token:Int
  is:Int
  states:List Stt
def vI (l:List Int):List V:=mv (V.int .i64) l
def vB (l:List Bool):List V:=mv V.bool l
def vS (l:List Str):List V:=mv V.str l
def taskV (t:Task):V:=.agg [.fsl .loose 1 (vI t.needs),.int .i64 t.tries,.int .i64 t.wait,.int .i64 t.lease]
def tasksV (l:List Task):V:=.fsl .loose 4 (mv taskV l)
def dagV (d:Dag):V:=.agg [.str d.name,tasksV d.tasks]
def sttV (s:Stt):V:=.agg [.int .i64 s.is,.int .i64 s.tried,.int .i64 s.due,.int .i64 s.token,.str s.result]
def sttsV (l:List Stt):V:=.fsl .loose 5 (mv sttV l)
def rnV (r:Rn):V:=.agg [.str r.key,.str r.dag.name,tasksV r.dag.tasks,.int .i64 r.is,sttsV r.states]
def wdV (w:Wd):V:=.agg [.int .i64 w.now,.int .i64 w.token,.fsl .loose 2 (mv dagV w.dags),.fsl .loose 5 (mv rnV w.runs)]
def cmdV (c:Cmd):V:=.agg [.int .i64 c.kind,.str c.key,.str c.name,.int .i64 c.token,.int .i64 c.time,.str c.text,.str c.dag.name,tasksV c.dag.tasks]
def ansV (a:Ans):V:=.agg [.int .i64 a.why,.str a.key,.int .i64 a.task,.int .i64 a.token,.int .i64 a.is,sttsV a.states]
section
variable {l:List Int}
theorem vI_closed:closedL (vI l)=true:=mv_closed fun _ => rfl
theorem vB_closed {l:List Bool}:closedL (vB l)=true:=mv_closed fun _ => rfl
theorem vS_closed {l:List Str}:closedL (vS l)=true:=mv_closed fun _ => rfl
theorem vI_lo:loL (vI l)=vI l:=mv_lo fun _ => by rw [lo]
end
theorem taskV_closed (t:Task):(taskV t).closed=true:=by simp [taskV,V.closed,closedL,vI_closed]
theorem taskV_lo (t:Task):lo (taskV t)=taskV t:=by simp [taskV,lo,loL,vI_lo]
theorem tasksV_closed (l:List Task):(tasksV l).closed=true:=by simp [tasksV,V.closed,mv_closed taskV_closed]
theorem tasksV_lo (l:List Task):lo (tasksV l)=tasksV l:=by simp [tasksV,lo,mv_lo taskV_lo]
theorem dagV_closed (d:Dag):(dagV d).closed=true:=by simp [dagV,V.closed,closedL,tasksV_closed]
theorem dagV_lo (d:Dag):lo (dagV d)=dagV d:=by simp [dagV,lo,loL,tasksV_lo]
theorem sttV_closed (s:Stt):(sttV s).closed=true:=by simp [sttV,V.closed,closedL]
theorem sttV_lo (s:Stt):lo (sttV s)=sttV s:=by simp [sttV,lo,loL]
theorem sttsV_closed (l:List Stt):(sttsV l).closed=true:=by simp [sttsV,V.closed,mv_closed sttV_closed]
theorem sttsV_lo (l:List Stt):lo (sttsV l)=sttsV l:=by simp [sttsV,lo,mv_lo sttV_lo]
theorem rnV_closed (r:Rn):(rnV r).closed=true:=by simp [rnV,V.closed,closedL,tasksV_closed,sttsV_closed]
theorem rnV_lo (r:Rn):lo (rnV r)=rnV r:=by simp [rnV,lo,loL,tasksV_lo,sttsV_lo]
theorem wdV_closed (w:Wd):(wdV w).closed=true:=by simp [wdV,V.closed,closedL,mv_closed dagV_closed,mv_closed rnV_closed]
theorem cmdV_closed (c:Cmd):(cmdV c).closed=true:=by simp [cmdV,V.closed,closedL,tasksV_closed]
/-! As arguments. -/
def yI:Ty:=.i .i64
def yIs:Ty:=.l 1 8 yI
def yTask:Ty:=.st (.cons yIs (.cons yI (.cons yI (.cons yI .nil))))
def yTasks:Ty:=.l 4 48 yTask
def fDag (r:Ty):Ty:=.cons .s (.cons yTasks r)
def ySt:Ty:=.st (.cons yI (.cons yI (.cons yI (.cons yI (.cons .s .nil)))))
def ySts:Ty:=.l 5 48 ySt
def i64 (n:Int):Prop:=-9223372036854775808≤n∧n≤9223372036854775807
def okTask (t:Task):Prop:=(∀ x∈t.needs,i64 x)∧t.needs.length*8≤reachBytes∧i64 t.tries∧i64 t.wait∧i64 t.lease
def okTasks (l:List Task):Prop:=l.length*48≤reachBytes∧∀ t∈l,okTask t
def okStr (s:Str):Prop:=s.length≤reachBytes
def okDag (d:Dag):Prop:=okStr d.name∧okTasks d.tasks
def okStt (s:Stt):Prop:=i64 s.is∧i64 s.tried∧i64 s.due∧i64 s.token∧okStr s.result
theorem yI_of {vs:List V} (h:TyV yI vs):∃ n,vs=[.int .i64 n]∧i64 n:=h
theorem yS_of {vs:List V} (h:TyV .s vs):∃ s,vs=[.str s]∧okStr s:=h
theorem yIs_of {vs:List V} (h:TyV yIs vs):∃ l,vs=[.fsl .loose 1 (vI l)]∧l.length*8≤reachBytes∧∀ x∈l,i64 x :=
  list_of (e:=yI) (f:=V.int .i64) (q:=i64) (fun us ⟨x,hx,hb⟩ => ⟨x,by rw [hx]; rfl,hb⟩) h
theorem yTask_of {us:List V} (h:TyV yTask us):∃ t,el yTask us=taskV t∧okTask t:=by
  obtain ⟨u1,w1,rfl,h1,u2,w2,rfl,h2,u3,w3,rfl,h3,u4,w4,rfl,h4,rfl⟩:=h
  obtain ⟨l,rfl,q1,q2⟩:=yIs_of h1
  obtain ⟨a,rfl,qa⟩:=yI_of h2
  obtain ⟨b,rfl,qb⟩:=yI_of h3
  obtain ⟨c,rfl,qc⟩:=yI_of h4
  exact ⟨⟨l,a,b,c⟩,rfl,q2,q1,qa,qb,qc⟩
theorem yTasks_of {vs:List V} (h:TyV yTasks vs):∃ l,vs=[tasksV l]∧okTasks l:=by
  obtain ⟨l,h1,h2,h3⟩:=list_of (e:=yTask) (f:=taskV) (q:=okTask) (fun us hu => yTask_of hu) h
  exact ⟨l,h1,h2,h3⟩
theorem fDag_of {r:Ty} {vs:List V} (h:TyV (fDag r) vs):∃ d ws,vs=.str d.name::tasksV d.tasks::ws∧okDag d∧TyV r ws:=by
  obtain ⟨u1,w1,rfl,h1,u2,w2,rfl,h2,h3⟩:=h
  obtain ⟨s,rfl,q1⟩:=yS_of h1
  obtain ⟨l,rfl,q2⟩:=yTasks_of h2
  exact ⟨⟨s,l⟩,w2,rfl,⟨q1,q2⟩,h3⟩
theorem ySt_of {us:List V} (h:TyV ySt us):∃ s,el ySt us=sttV s∧okStt s:=by
  obtain ⟨u1,w1,rfl,h1,u2,w2,rfl,h2,u3,w3,rfl,h3,u4,w4,rfl,h4,u5,w5,rfl,h5,rfl⟩:=h
  obtain ⟨a,rfl,qa⟩:=yI_of h1
  obtain ⟨b,rfl,qb⟩:=yI_of h2
  obtain ⟨c,rfl,qc⟩:=yI_of h3
  obtain ⟨d,rfl,qd⟩:=yI_of h4
  obtain ⟨e,rfl,qe⟩:=yS_of h5
  exact ⟨⟨a,b,c,d,e⟩,rfl,qa,qb,qc,qd,qe⟩
theorem ySts_of {vs:List V} (h:TyV ySts vs):∃ l,vs=[sttsV l]∧l.length*48≤reachBytes∧∀ s∈l,okStt s :=
  let ⟨l,h1,h2,h3⟩:=list_of (e:=ySt) (f:=sttV) (q:=okStt) (fun us hu => ySt_of hu) h
  ⟨l,h1,h2,h3⟩
end
section
theorem piece {P:Program} (hm:P.follows .mixedOrders=true) {N:Nat} {c:C} {code:Code} {σ:Sg} {H:Hp} {Q:QA} {g:G} {a:Act} {w:World} {Q':Exit→Act→World→Prop} (hfl:c.flat=true)
    (hc:chkC P N code c=true) (h:evX P c σ H Q) (hs:RS g H.m w) (hf:∀ id,H.n≤id→g.ι id=none) (hr:RA none g σ a N w)
    (k:∀ e a' w',Post none g H w N Q e a' w'→Q' e a' w'):code.wpIn (Fw none) 0 P Q' a w :=
  wpIn_mono (ev_sound hm (.inr hfl) hc (ofX h) hs hf hr) k
theorem Ext.bare {g g':G} {m':Hm} {w w':World} (h:Ext g (fun _ => none) w g' m' w'):Bel w w' :=
  ⟨h.size,fun b hb => h.old b hb (fun ⟨_,_,_,_,k,_⟩ => by cases k),h.os,h.tape,h.output⟩
theorem Bel.trans {a b c:World} (h:Bel a b) (k:Bel b c):Bel a c :=
  ⟨Nat.le_trans h.size k.size,fun i hi => (k.old i (by have:=h.size; omega)).trans (h.old i hi),k.os.trans h.os,k.tape.trans h.tape,k.output.trans h.output⟩
def elsOf:Nat→List V→List (List V)
  | _,[] => []
  | i,v::vs => [.int .i64 i,v]::elsOf (i+1) vs
theorem elsOf_at:∀ {l:List V} {i k:Nat},(elsOf i l)[k]?=(l[k]?).map fun v => [.int .i64 ((i+k:Nat):Int),v]
  | [],i,k => by simp [elsOf]
  | v::vs,i,0 => by simp [elsOf]
  | v::vs,i,k+1 => by
    simp only [elsOf,List.getElem?_cons_succ]
    rw [elsOf_at,show i+1+k=i+(k+1) by omega]
theorem elsOf_len:∀ {l:List V} {i:Nat},(elsOf i l).length=l.length
  | [],i => rfl
  | v::vs,i => by simp [elsOf,elsOf_len]
theorem elsOf_two {l:List V} {i:Nat}:∀ el∈elsOf i l,el.length=2:=by
  induction l generalizing i with
  | nil => simp [elsOf]
  | cons v vs ih => intro el h; simp only [elsOf,List.mem_cons] at h; rcases h with rfl | h; rfl; exact ih el h
theorem RA.reset {g:G} {σ σ':Sg} {a:Act} {N:Nat} {w w':World} (h:RA none g σ a N w) (hs:∀ t v,find t σ'=some v→find t σ=some v∧v.closed=true):RA none ⟨fun _ => none,g.F⟩ σ' a N w' :=
  ⟨fun t v ht => by obtain ⟨k1,k2⟩:=hs t v ht; exact R.closed (g:=g) (g':=⟨fun _ => none,g.F⟩) (fun _ _ k => k) _ _ k2 (h.vR t v k1),h.sizeA,by rw [h.defs.none]; exact .nil (by simp)⟩
theorem RG.reset {de:List Deferred} {g:G} {σ σ':Sg} {dl:List (Option Nat)} {env:List V} {a:Act} {N:Nat} (h:RG de g σ dl env a N) (hs:∀ t v,find t σ'=some v→find t σ=some v∧v.closed=true) (he:∀ d v,nth d env=some v→v.closed=true) :
    RG de ⟨fun _ => none,g.F⟩ σ' dl env a N :=
  ⟨fun t d v k1 k2 => R.closed (g:=g) (g':=⟨fun _ => none,g.F⟩) (fun _ _ k => k) _ _ (he d v k2) (h.eR t d v k1 k2),fun t v k1 k2 => by obtain ⟨k3,k4⟩:=hs t v k2; exact R.closed (g:=g) (g':=⟨fun _ => none,g.F⟩) (fun _ _ k => k) _ _ k4 (h.vR t v k1 k3),h.lenE,h.sizeA,h.defs⟩
theorem yield_reg {P:Program} {N id m l:Nat} {ops:Array Oper} {is is2:List RI} {o:Oper} {f:Operand} {args:Array Operand} {ts:Array TypeId} {σ:Sg} {H:Hp} {g:G} {a:Act} {w:World} {Q:Exit→Act→World→Prop} {K:List V→Hp→Prop}
    (ho:ops[m]?=some o) (hg:o.guard=none) (hop:o.op=.call { callee:=.value f,args:=args,argTypes:=ts }) (hdst:dstOk N o.dst=true)
    (hc:chkRs P N 0 [] (ops.toList.take m) is=true) (hds:∀ t∈dlT (ops.toList.take m) [],dstOk N t=true) (hc2:chkRs P N (m+1) (o.dst::dlT (ops.toList.take m) []) (ops.toList.drop (m+1)) is2=true)
    (h:evX1 P σ is [] [] H K) (hs:RS g H.m w) (hf:∀ id,H.n≤id→g.ι id=none) (hr:RA none g σ a N w)
    (k:∀ env H' g' a' w',K env H'→RG [] g' σ (dlT (ops.toList.take m) []) env a' N→RS g' H'.m w'→Fr g H g' H'→Ext g H.m w g' H'.m w' →
      ∃ Rr:Ending→World→Prop,a'.eval f=.func (.yield l) #[] #[]∧YieldAt (Fw none) 0 P l (args.map a'.eval) w' Rr ∧
        ∀ e w'',Rr e w''→∃ (b:Bool) (g2:G) (σ2:Sg) (H2:Hp) (K2:List V→Hp→Prop),e=.returned (.bool b)∧RS g2 H2.m w''∧(∀ id,H2.n≤id→g2.ι id=none)∧RG [] g2 σ2 (dlT (ops.toList.take m) []) env a' N ∧
          evX1 P σ2 is2 (.bool b::env) [] H2 K2 ∧
          ∀ env3 H3 g3 a3 w3,K2 env3 H3→RG [] g3 σ2 (dlT (ops.toList.drop (m+1)) (o.dst::dlT (ops.toList.take m) [])) env3 a3 N→RS g3 H3.m w3→Fr g2 H2 g3 H3→Ext g2 H2.m w'' g3 H3.m w3→Q .normal a3 w3) :
    (Code.region id ops false).wpIn (Fw none) 0 P Q a w:=by
  refine wpIn_region ?_
  have hlt:m < ops.toList.length:=by have:=(Array.getElem?_eq_some_iff.1 ho).1; simpa using this
  have hsp:ops.toList=ops.toList.take m++o::ops.toList.drop (m+1):=by
    have e:ops.toList[m]=o:=by have:=(Array.getElem?_eq_some_iff.1 ho).2; simpa using this
    rw [← e,List.getElem_cons_drop hlt,List.take_append_drop]
  have htl:(ops.toList.take m).length=m:=by simp at hlt ⊢; omega
  have hrg:List.range ops.size=List.range' 0 (ops.toList.take m).length++(m::List.range' (m+1) (ops.toList.drop (m+1)).length):=by
    rw [htl,List.range_eq_range',show ops.size=m+(1+(ops.size - (m+1))) by simp at hlt; omega,← List.range'_append_1,List.length_drop,Array.length_toList,Nat.zero_add,← List.range'_append_1]
    simp
  rw [hrg]
  refine seq_pre (P:=P) (ro:=none) (de:=[]) (N:=N) (σ:=σ) (os2:=o::ops.toList.drop (m+1)) is (ops.toList.take m) 0 [] [] [] H K a w g (by simpa using hsp) rfl (by intro j d h; omega) (by simp) hc (evX1_sound (fun _ _ h => h) h) hs hf (by have:=hr.rg; rwa [hr.defs.none] at this) ?_
  intro env H' g' a' w' k1 k2 k3 k4 k5
  rw [dlOf_eq] at k2
  obtain ⟨Rr,q1,q2,q3⟩:=k env H' g' a' w' k1 k2 k3 k4 k5
  refine yield_step ho hg hop q1 q2 fun e w'' he => ?_
  obtain ⟨b,g2,σ2,H2,K2,rfl,p1,p2,p3,p4,p5⟩:=q3 e w'' he
  refine ⟨_,rfl, ?_⟩
  have hdlen:(dlT (ops.toList.take m) []).length=m:=by simp [dlT]; simp at hlt; omega
  refine seq_sound (P:=P) (ro:=none) (de:=[]) (N:=N) (σ:=σ2) is2 (ops.toList.drop (m+1)) (m+1) (o.dst::dlT (ops.toList.take m) []) (.bool b::env) [] H2 K2 (a'.put o.dst (.bool b)) w'' g2 rfl (by simp [hdlen]) ?_ ?_ hc2 (evX1_sound (fun _ _ h => h) p4) p1 p2 (p3.put (.refl g2) hdst (by simp [R])) ?_
  · intro j d h
    cases d with
    | zero => obtain rfl : j = m := by omega
              simp [ho]
    | succ d =>
      simp only [List.getElem?_cons_succ,dlT,List.append_nil]
      rw [List.getElem?_reverse (by simp; simp at hlt; omega),List.getElem?_map,List.length_map,htl,List.getElem?_take_of_lt (by omega)]
      rw [show m - 1 - d=j by omega]; simp
  · intro t ht
    rcases List.mem_cons.1 ht with rfl | ht
    · exact hdst
    · exact hds t ht
  · intro env3 H3 g3 a3 w3 r1 r2 r3 r4 r5
    rw [dlOf_eq] at r2
    exact p5 env3 H3 g3 a3 w3 r1 r2 r3 r4 r5
theorem sttV_closed' (s:Stt):(sttV s).closed=true:=by simp [sttV,V.closed,closedL]
def hd (l:Nat) (r:Rn) (k:Nat):Sg:=[(0,.yl l),(6,sttsV r.states),(7,.int .i64 (r.states.length:Int)),(8,.int .i64 (k:Int))]
theorem hd_closed {l k:Nat} {r:Rn}:∀ t v,find t (hd l r k)=some v→v.closed=true:=by
  intro t v h
  have hst:(sttsV r.states).closed=true:=by simp [sttsV,V.closed,mv_closed,sttV_closed']
  simp only [hd,find] at h
  repeat' split at h
  all_goals first | (cases h; done) | (simp at h; subst h; first | rfl | exact hst)
def H0:Hp:=⟨0,fun _ => none⟩
set_option maxHeartbeats 1000000 in
theorem seq_each (r:Rn) (hlen:r.states.length≤4611686018427387904):SeqC Tryz.prog 174 [.fptr (rnV r) 0] (elsOf 0 (mv sttV r.states)):=by
  refine ⟨⟨Tryz.f174,Tryz.func174,rfl,by kernel_rfl⟩,fun F w ys hs hys l J Jx X jlt jst jxst hy hdis h0 => ?_⟩
  have hm:Tryz.prog.follows .mixedOrders=true:=by kernel_rfl
  simp only [RC] at hys
  obtain ⟨y,ys',hys',hyr,hnil⟩:=hys
  subst hnil
  obtain rfl:ys=#[y]:=by cases ys; simp_all
  refine callsIn_of_wp Tryz.func174 rfl trivial ?_
  have ra0:RA none ⟨fun _ => none,F⟩ [(0,.yl l),(1,.fptr (rnV r) 0)] { tmps:=#[.func (.yield l) #[] #[]]++#[y]++Array.replicate (19 - 2) undef,defers:=[] } 19 w:=by
    refine ⟨fun t v ht => ?_,by simp,.nil (by simp)⟩
    simp only [find] at ht
    split at ht
    · rename_i e; subst e; simp at ht; subst ht; simp [R]
    · split at ht
      · rename_i e; subst e; simp at ht; subst ht; simpa using hyr
      · cases ht
  refine wpIn_seq (piece hm (N:=19) (c:=.reg false [p (.fad 4 (.v 1)),p (.load (none) (.r 0)),p (.len false (.r 0)),p (.mov (.k (.int .i64 0)))] [(0,.v 0),(6,.r 2),(7,.r 1),(8,.r 0)])
    (σ:=[(0,.yl l),(1,.fptr (rnV r) 0)]) (H:=H0) (Q:=fun ae σ H => ae=.norm∧σ=hd l r 0∧H=H0) rfl (by kernel_rfl) ?_ hs (fun _ _ => rfl) ra0 ?_)
  · simp (maxSteps:=1000000) (disch:=omega) only [rg,gD,simprocAttr,rnV,sttsV,tasksV]
    rfl
  rintro e a1 w1 ⟨ae,σ1,H1,g1,k1,⟨rfl,rfl,rfl⟩,k3,k4,k5,k6⟩
  cases e<;>simp only [AEx.is] at k1
  clear k1
  have nf:∀ {g':G} {w':World},Ext ⟨fun _ => none,F⟩ (fun _ => none) w g' (fun _ => none) w'→∀ b c,g'.F b=some c→(F b=some c∨w.heap.size≤b)∧¬ X b:=fun hx b c hb => by
    rcases hx.froz b c hb with q | q | ⟨_,_,_,_,q,_⟩
    · exact ⟨.inl q,hdis b c q⟩
    · exact ⟨.inr q,fun hX => by have:=jlt 0 X w h0 b hX; omega⟩
    · cases q
  refine wpIn_block (wpIn_loop_ghost (fun n a W => ∃ (k:Nat) (F':Nat→Option (List Value)) (X:Nat→Prop),n=r.states.length - k∧k≤r.states.length∧J k X W∧RS ⟨fun _ => none,F'⟩ (fun _ => none) W∧w.heap.size≤W.heap.size ∧
    (∀ b c,F' b=some c→(F b=some c∨w.heap.size≤b)∧¬ X b)∧RA none ⟨fun _ => none,F'⟩ (hd l r k) a 19 W) r.states.length
    ⟨0,g1.F,X,by simp,Nat.zero_le _,jst 0 X w w1 h0 k6.bare,⟨k3.fro,by simp,by simp⟩,k6.size,nf k6,k5.reset fun t v h => ⟨h,hd_closed t v h⟩⟩ ?_)
  clear k3 k4 k5 k6 nf ra0 hs h0 hdis a1 w1 g1 X
  rintro n a W ⟨k,F',X,rfl,hk,hj,hrs,hsz,hF',ra⟩
  -- is there one more?
  refine wpIn_seq (piece hm (N:=19) (c:=.reg false [p (.bin .lss (.v 8) (.v 7))] [(0,.v 0),(6,.v 6),(7,.v 7),(8,.v 8),(9,.r 0)])
    (H:=H0) (Q:=fun ae σ H => ae=.norm∧σ=[(0,.yl l),(6,sttsV r.states),(7,.int .i64 (r.states.length:Int)),(8,.int .i64 (k:Int)),(9,.bool (decide ((k:Int) < r.states.length)))]∧H=H0) rfl (by kernel_rfl) ?_ hrs (fun _ _ => rfl) ra ?_)
  · simp (maxSteps:=1000000) (disch:=omega) only [rg,gD,simprocAttr,hd]
  rintro e a1 w1 ⟨ae,σ1,H1,g1,k1,⟨rfl,rfl,rfl⟩,k3,k4,k5,k6⟩
  cases e<;>simp only [AEx.is] at k1
  clear k1
  have hst:(sttsV r.states).closed=true:=by simp [sttsV,V.closed,mv_closed,sttV_closed']
  have b1:Bel W w1:=k6.bare
  have hj1:=jst k X W w1 hj b1
  have hF1:∀ b c,g1.F b=some c→(F b=some c∨w.heap.size≤b)∧¬ X b:=fun b c hb => by
    rcases k6.froz b c hb with q | q | ⟨_,_,_,_,q,_⟩
    · exact hF' b c q
    · exact ⟨.inr (by omega),fun hX => by have:=jlt k X W hj b hX; omega⟩
    · cases q
  have ra1:RA none ⟨fun _ => none,g1.F⟩ ((9,.bool (decide ((k:Int) < r.states.length)))::hd l r k) a1 19 w1:=k5.reset fun t v ht => by
    simp only [find] at ht
    split at ht
    · rename_i e; subst e; cases ht; exact ⟨rfl,rfl⟩
    · rename_i e
      refine ⟨?_,hd_closed t v ht⟩
      simp only [hd,find] at ht ⊢
      repeat' split at ht
      all_goals first | (cases ht; done) | simp_all
  have rs1:RS ⟨fun _ => none,g1.F⟩ (fun _ => none) w1:=⟨k3.fro,by simp,by simp⟩
  have sz1:w.heap.size≤w1.heap.size:=Nat.le_trans hsz b1.size
  clear k3 k4 k5 k6 hrs hj hF' ra hsz b1
  have hc9:a1.eval (.tmp 9)=.bool (decide ((k:Int) < r.states.length)):=by
    have:=ra1.vR 9 (.bool (decide ((k:Int) < r.states.length))) rfl
    simp only [R] at this; exact this
  by_cases hlt:k < r.states.length
  · refine wpIn_seq (wpIn_cond_true (by rw [hc9]; simp; omega) (wpIn_skip ?_))
    have raH:RA none ⟨fun _ => none,g1.F⟩ (hd l r k) a1 19 w1:=⟨fun t v ht => ra1.vR t v (by
      simp only [find]
      split
      · rename_i e; subst e; simp [hd,find] at ht
      · exact ht),ra1.sizeA,ra1.defs⟩
    -- the state is taken
    refine wpIn_seq (wpIn_block (wpIn_seq (piece hm (N:=19) (c:=.reg false [p (.mov (.v 8)),p (.iad 5 (.v 6) (.v 8)),p (.load (some 5) (.r 0)),p (.alloc 5 (.agg [.int .i64 0,.int .i64 0,.int .i64 0,.int .i64 0,.str []])),p (.mov (.r 3)),p (.store (some 5) (.r 1) (.r 2))] [(0,.v 0),(3,.r 1),(4,.r 2),(6,.v 6),(7,.v 7),(8,.v 8)])
      (H:=H0) (Q:=fun ae σ H => ae=.norm∧σ=[(0,.yl l),(3,.int .i64 (k:Int)),(4,.ptr 0 0 0),(6,sttsV r.states),(7,.int .i64 (r.states.length:Int)),(8,.int .i64 (k:Int))]∧H=⟨1,upd (fun _ => none) 0 (some (.arr 5 [sttV r.states[k]]))⟩) rfl (by kernel_rfl) ?_ rs1 (fun _ _ => rfl) raH ?_)))
    · simp (maxSteps:=1000000) (disch:=omega) only [rg,gD,simprocAttr,hd,sttsV,sttV,H0]
      congr 1; funext i; simp only [upd]; split<;>rfl
    rintro e a2 w2 ⟨ae,σ2,H2,g2,k1,⟨rfl,rfl,rfl⟩,k3,k4,k5,k6⟩
    cases e<;>simp only [AEx.is] at k1
    clear k1
    have hj2:=jst k X w1 w2 hj1 k6.bare
    have hF2:∀ b c,g2.F b=some c→(F b=some c∨w.heap.size≤b)∧¬ X b:=fun b c hb => by
      rcases k6.froz b c hb with q | q | ⟨_,_,_,_,q,_⟩
      · exact hF1 b c q
      · exact ⟨.inr (by omega),fun hX => by have:=jlt k X w1 hj1 b hX; omega⟩
      · cases q
    have sz2:w.heap.size≤w2.heap.size:=Nat.le_trans sz1 k6.bare.size
    -- yield is called
    refine wpIn_seq (yield_reg (N:=19) (m:=3) (l:=l) (f:=.tmp 13) (args:=#[.tmp 14,.tmp 15]) (is:=[p (.mov (.v 0)),p (.mov (.v 3)),p (.load (some 5) (.v 4))]) (is2:=[p (.un .not (.r 0))])
      (K:=fun env _ => env=[sttV r.states[k],.int .i64 (k:Int),.yl l])
      rfl rfl rfl (by kernel_rfl) (by kernel_rfl) (by decide) (by kernel_rfl) ?_ k3 k4.1 k5 ?_)
    · simp (maxSteps:=1000000) (disch:=omega) only [rg,gD,simprocAttr,sttV]
    rintro env H' g' a' w' rfl rq rs3 fr3 ext3
    have ownW:∀ b,Own g2 (upd (fun _ => none) 0 (some (.arr 5 [sttV r.states[k]]))) b→w1.heap.size≤b:=fun b hb => by
      rcases k6.own b hb with q | ⟨_,_,_,_,q,_⟩
      · exact q
      · cases q
    have hb3:Bel w1 w':=by
      refine ⟨Nat.le_trans k6.size ext3.size,fun b hb => ?_,ext3.os.trans k6.os,ext3.tape.trans k6.tape,ext3.output.trans k6.output⟩
      exact (ext3.old b (Nat.lt_of_lt_of_le hb k6.size) (fun h => by have:=ownW b h; omega)).trans (k6.bare.old b hb)
    have hj3:=jst k X w1 w' hj1 hb3
    have hF3:∀ b c,g'.F b=some c→(F b=some c∨w.heap.size≤b)∧¬ X b:=fun b c hb => by
      have big:w1.heap.size≤b→(F b=some c∨w.heap.size≤b)∧¬ X b:=fun q => ⟨.inr (by omega),fun hX => by have:=jlt k X w1 hj1 b hX; omega⟩
      rcases ext3.froz b c hb with q | q | q
      · exact hF2 b c q
      · exact big (Nat.le_trans k6.size q)
      · exact big (ownW b q)
    have r14:R g' (.int .i64 (k:Int)) (a'.eval (.tmp 14)):=rq.eR 14 1 _ rfl rfl
    have r15:R g' (sttV r.states[k]) (a'.eval (.tmp 15)):=rq.eR 15 0 _ rfl rfl
    have r13:R g' (.yl l) (a'.eval (.tmp 13)):=rq.eR 13 2 _ rfl rfl
    have hxs:RC ⟨fun _ => none,g'.F⟩ [.int .i64 ((0+k:Nat):Int),sttV r.states[k]] (#[Operand.tmp 14,.tmp 15].map a'.eval).toList:=by
      simp only [Array.toList_map,List.map_cons,List.map_nil,RC]
      refine ⟨_,_,rfl, ?_,_,_,rfl,R.closed (g:=g') (g':=⟨fun _ => none,g'.F⟩) (fun _ _ q => q) _ _ (sttV_closed' _) r15,rfl⟩
      rw [Nat.zero_add]; simpa only [R] using r14
    refine ⟨_,by simpa only [R] using r13,hy k X w' g'.F _ _ hj3 (by rw [elsOf_at,mv_get hlt]; rfl) hF3 ⟨rs3.fro,by simp,by simp⟩ hxs, ?_⟩
    rintro e w'' ⟨hz,hold,hpost⟩
    have rs4:RS ⟨fun _ => none,g'.F⟩ (fun _ => none) w'':=by
      refine ⟨fun b c q => ?_,by simp,by simp⟩
      obtain ⟨e,fr,h1⟩:=rs3.fro b c q
      exact ⟨e,fr,(hold b (Array.getElem?_eq_some_iff.1 h1).1 (hF3 b c q).2).trans h1⟩
    have rg4:RG [] ⟨fun _ => none,g'.F⟩ (hd l r k) (dlT ((#[]:Array Oper).toList) [some 15,some 14,some 13]) [sttV r.states[k],.int .i64 (k:Int),.yl l] a' 19:=by
      refine rq.reset (fun t v ht => ⟨?_,hd_closed t v ht⟩) (fun d v hd => ?_)
      · simp only [hd,find] at ht ⊢
        repeat' split at ht
        all_goals first | (cases ht; done) | simp_all
      · match d,hd with
        | 0,hd => simp [nth] at hd; subst hd; exact sttV_closed' _
        | 1,hd => simp [nth] at hd; subst hd; rfl
        | 2,hd => simp [nth] at hd; subst hd; rfl
        | d+3,hd => simp [nth] at hd
    have fin:∀ (b:Bool) g3 a3,RG [] g3 (hd l r k) [some 17,some 16,some 15,some 14,some 13] [.bool (!b),.bool b,sttV r.states[k],.int .i64 (k:Int),.yl l] a3 19→a3.eval (.tmp 17)=.bool (!b)∧∀ w3,RA none ⟨fun _ => none,g3.F⟩ (hd l r k) a3 19 w3:=fun b g3 a3 q => by
      refine ⟨by have : R g3 (.bool (!b)) (a3.eval (.tmp 17)) := q.eR 17 0 _ rfl rfl
                 simpa only [R] using this,fun w3 => ⟨fun t v ht => ?_,q.sizeA,by rw [q.defs]; exact .nil (by simp)⟩⟩
      refine R.closed (g:=g3) (g':=⟨fun _ => none,g3.F⟩) (fun _ _ q => q) _ _ (hd_closed t v ht) (q.vR t v ?_ ht)
      simp only [hd,find] at ht
      repeat' split at ht
      all_goals first | (cases ht; done) | (rename_i e; subst e; rfl) | (subst_vars; rfl)
    rcases hpost with ⟨rfl,X',hj4,hX'⟩ | ⟨rfl,hjx⟩
    · refine ⟨true,⟨fun _ => none,g'.F⟩,hd l r k,H0,fun env H => env=[.bool (!true),.bool true,sttV r.states[k],.int .i64 (k:Int),.yl l]∧H=H0,rfl,rs4,fun _ _ => rfl,rg4, ?_, ?_⟩
      · simp (maxSteps:=1000000) (disch:=omega) only [rg,gD,simprocAttr,hd]
      rintro env3 H3 g3 a3 w3 ⟨rfl,rfl⟩ rg5 rs5 fr5 ext5
      obtain ⟨e17,ra5⟩:=fin true g3 a3 rg5
      have b5:Bel w'' w3:=ext5.bare
      have hF5:∀ b c,g3.F b=some c→(F b=some c∨w.heap.size≤b)∧¬ X' b:=fun b c hb => by
        have hX2:w1.heap.size≤b→¬ X' b→True:=fun _ _ => trivial
        rcases ext5.froz b c hb with q | q | ⟨_,_,_,_,q,_⟩
        · refine ⟨(hF3 b c q).1,fun hx => ?_⟩
          rcases hX' b hx with h | h
          · exact (hF3 b c q).2 h
          · obtain ⟨_,_,h1⟩:=rs3.fro b c q
            have:=(Array.getElem?_eq_some_iff.1 h1).1
            omega
        · refine ⟨.inr (by have:=hb3.size; omega),fun hx => ?_⟩
          have:=jlt (k+1) X' w'' hj4 b hx
          omega
        · cases q
      refine wpIn_cond_false e17 (wpIn_skip ?_)
      refine piece hm (N:=19) (c:=.reg false [p (.bin .add (.v 8) (.k (.int .i64 1))),p (.mov (.r 0))] [(0,.v 0),(6,.v 6),(7,.v 7),(8,.r 0)]) (H:=H0) (Q:=fun ae σ H => ae=.norm∧σ=hd l r (k+1)∧H=H0) rfl (by kernel_rfl) ?_
        (g:=⟨fun _ => none,g3.F⟩) ⟨rs5.fro,by simp [H0],by simp [H0]⟩ (fun _ _ => rfl) (ra5 w3) ?_
      · simp (maxSteps:=1000000) (disch:=omega) only [rg,gD,simprocAttr,hd]
        rfl
      rintro e a7 w7 ⟨ae,σ7,H7,g7,q1,⟨rfl,rfl,rfl⟩,q3,q4,q5,q6⟩
      cases e<;>simp only [AEx.is] at q1
      refine ⟨r.states.length - (k+1),by omega,k+1,g7.F,X',rfl,by omega,jst _ _ _ _ hj4 (b5.trans q6.bare),⟨q3.fro,by simp,by simp⟩, ?_,fun b c hb => ?_,q5.reset fun t v h => ⟨h,hd_closed t v h⟩⟩
      · have:=hb3.size; have:=b5.size; have:=q6.bare.size; omega
      · rcases q6.froz b c hb with q | q | ⟨_,_,_,_,q,_⟩
        · exact hF5 b c q
        · refine ⟨.inr (by have:=hb3.size; have:=b5.size; omega),fun hx => ?_⟩
          have:=jlt (k+1) X' w'' hj4 b hx
          have:=b5.size
          omega
        · cases q
    · refine ⟨false,⟨fun _ => none,g'.F⟩,hd l r k,H0,fun env H => env=[.bool (!false),.bool false,sttV r.states[k],.int .i64 (k:Int),.yl l]∧H=H0,rfl,rs4,fun _ _ => rfl,rg4, ?_, ?_⟩
      · simp (maxSteps:=1000000) (disch:=omega) only [rg,gD,simprocAttr,hd]
      rintro env3 H3 g3 a3 w3 ⟨rfl,rfl⟩ rg5 rs5 fr5 ext5
      obtain ⟨e17,ra5⟩:=fin false g3 a3 rg5
      refine wpIn_cond_true e17 (wpIn_ret ?_)
      exact ⟨(ra5 w3).defs.none,_,results_none rfl _ _ _,⟨_,rfl⟩,.inr (jxst _ _ hjx ext5.bare)⟩
  · have hke:k=r.states.length:=by omega
    subst hke
    refine wpIn_seq (wpIn_cond_false (by rw [hc9]; simp) (wpIn_exit ?_))
    exact ⟨ra1.defs.none,_,results_none rfl _ _ _,⟨_,rfl⟩,.inl ⟨X,by rw [elsOf_len,mv_len]; exact hj1⟩⟩
end
def c123:C :=
  (.seq
 (.reg false [p (.mov (.k (.bool false)))] [(0,.v 0)])
 (.seq
 (.reg false [p (.mov (.v 0)),
 p (.len true (.r 0)),
 p (.bin .geq (.r 0) (.k (.int .i64 1))),
 p (.mov (.r 0)),
 ⟨.mov (.v 0),some (0,true),[]⟩,
 ⟨.len true (.r 0),some (1,true),[]⟩,
 ⟨.bin .leq (.r 0) (.k (.int .i64 16)),some (2,true),[]⟩,
 p (.pick (.r 3) (.r 0) (.k (.bool false))),
 p (.mov (.r 0))] [(2,.r 0)])
 .ret))
def r123:List RV:=[.t 2]
theorem en123:EnP Tryz.prog 123 11 c123 r123:=mkEnP (by kernel_rfl) Tryz.func123 (by kernel_rfl) ⟨_,rfl,by kernel_rfl,by kernel_rfl⟩
def c125:C :=
  (.seq
 (.reg false [p (.box 5 (.v 0)),
 p (.mov (.k (.nilf)))] [(1,.r 1)])
 (.seq
 (.reg false [p (.mkf 174 [] [.v 1]),
 p (.mov (.r 0))] [(2,.r 0)])
 .ret))
def r125:List RV:=[.t 2]
theorem en125:EnP Tryz.prog 125 4 c125 r125:=mkEnP (by kernel_rfl) Tryz.func125 (by kernel_rfl) ⟨_,rfl,by kernel_rfl,by kernel_rfl⟩
def c224:C :=
  (.seq
 (.reg false [p (.mov (.k (.int .i64 0)))] [(0,.v 0),(1,.v 1)])
 (.seq
 (.seq
 (.reg false [p (.mov (.v 0)),
 p (.len false (.r 0)),
 p (.mov (.k (.int .i64 0)))] [(0,.v 0),(1,.v 1),(7,.r 1),(8,.r 0)])
 (.block 0
 (.loop
 (.seq
 (.reg false [p (.bin .lss (.v 8) (.v 7))] [(0,.v 0),(1,.v 1),(7,.v 7),(8,.v 8),(9,.r 0)])
 (.seq
 (.cond (.v 9)
 .skip
 (.exit 0))
 (.seq
 (.block 1
 (.seq
 (.reg false [p (.mov (.v 8)),
 p (.mov (.r 0))] [(0,.v 0),(1,.v 1),(5,.r 0),(7,.v 7),(8,.v 8)])
 (.seq
 (.reg false [p (.mov (.v 1)),
 p (.mov (.v 0)),
 p (.mov (.v 5)),
 p (.iad 1 (.r 1) (.r 0)),
 p (.load (none) (.r 0)),
 p (.bin .eql (.r 4) (.r 0))] [(0,.v 0),(1,.v 1),(5,.v 5),(7,.v 7),(8,.v 8),(16,.r 0)])
 (.cond (.v 16)
 (.seq
 (.reg false [p (.mov (.v 5)),
 p (.mov (.r 0))] [(4,.r 0)])
 .ret)
 .skip))))
 (.reg false [p (.bin .add (.v 8) (.k (.int .i64 1))),
 p (.mov (.r 0))] [(0,.v 0),(1,.v 1),(7,.v 7),(8,.r 0)])))))))
 (.frz
 (.seq
 (.reg false [p (.mov (.k (.int .i64 (-1))))] [(4,.r 0)])
 .ret))))
def r224:List RV:=[.t 4]
theorem en224:EnP Tryz.prog 224 19 c224 r224:=mkEnP (by kernel_rfl) Tryz.func224 (by kernel_rfl) ⟨_,rfl,by kernel_rfl,by kernel_rfl⟩
def c177:C :=
  (.seq
 (.reg false [p (.mov (.k (.bool false)))] [(0,.v 0),(1,.v 1)])
 (.seq
 (.reg false [p (.mov (.v 0)),
 p (.mov (.v 1)),
 p (.call true (.k (.fn 224 [] [])) [.r 1,.r 0]),
 p (.bin .geq (.r 0) (.k (.int .i64 0))),
 p (.mov (.r 0))] [(4,.r 0)])
 .ret))
def r177:List RV:=[.t 4]
theorem en177:EnP Tryz.prog 177 9 c177 r177:=mkEnP (by kernel_rfl) Tryz.func177 (by kernel_rfl) ⟨_,rfl,by kernel_rfl,by kernel_rfl⟩
def c128:C :=
  (.seq
 (.reg false [p (.box 5 (.v 0)),
 p (.box 1 (.v 1)),
 p (.mov (.k (.int .i64 0)))] [(2,.r 2),(3,.r 1)])
 (.seq
 (.reg false [p (.alloc 1 (.int .i64 0)),
 p (.store (none) (.r 0) (.k (.int .i64 0)))] [(2,.v 2),(3,.v 3),(5,.r 1)])
 (.seq
 (.seq
 (.reg false [p (.load (some 5) (.v 2)),
 p (.call true (.k (.fn 125 [] [])) [.r 0])] [(3,.v 3),(5,.v 5),(9,.r 0)])
 (.block 0
 (.rf (.v 9) [10,11]
 (.reg false [p (.alloc 5 (.agg [.int .i64 0,.int .i64 0,.int .i64 0,.int .i64 0,.str []])),
 p (.store (some 5) (.r 0) (.v 11))] [(3,.v 3),(5,.v 5),(7,.r 1)])
 (.block 1
 (.seq
 (.reg false [p (.load (none) (.v 3)),
 p (.fad 0 (.v 7)),
 p (.load (none) (.r 0)),
 p (.call true (.k (.fn 177 [] [])) [.r 2,.r 0])] [(5,.v 5),(15,.r 0)])
 (.cond (.v 15)
 (.reg false [p (.load (none) (.v 5)),
 p (.bin .add (.r 0) (.k (.int .i64 1))),
 p (.store (none) (.v 5) (.r 0))] [])
 .skip))))))
 (.seq
 (.reg false [p (.load (none) (.v 5)),
 p (.mov (.r 0))] [(4,.r 0)])
 .ret))))
def r128:List RV:=[.t 4]
theorem en128:EnP Tryz.prog 128 19 c128 r128:=mkEnP (by kernel_rfl) Tryz.func128 (by kernel_rfl) ⟨_,rfl,by kernel_rfl,by kernel_rfl⟩
def c124:C :=
  (.seq
 (.reg false [p (.box 5 (.v 0)),
 p (.mov (.k (.int .i64 0)))] [(1,.r 1)])
 (.seq
 (.block 0
 (.seq
 (.reg true [p (.load (some 5) (.v 1)),
 p (.bsl 1 [.k (.int .i64 3)]),
 p (.call true (.k (.fn 128 [] [])) [.r 1,.r 0]),
 p (.fad 4 (.v 1)),
 p (.load (none) (.r 0)),
 p (.len false (.r 0)),
 p (.bin .eql (.r 3) (.r 0)),
 p (.mov (.r 0))] [(1,.v 1),(3,.r 0)])
 (.cond (.v 3)
 (.seq
 (.reg false [p (.mov (.k (.int .i64 1)))] [(2,.r 0)])
 .ret)
 (.seq
 (.reg false [p (.load (some 5) (.v 1)),
 p (.bsl 1 [.k (.int .i64 4)]),
 p (.call true (.k (.fn 128 [] [])) [.r 1,.r 0]),
 p (.bin .gtr (.r 0) (.k (.int .i64 0))),
 p (.mov (.r 0))] [(1,.v 1),(11,.r 0)])
 (.cond (.v 11)
 (.seq
 (.reg false [p (.mov (.k (.int .i64 2)))] [(2,.r 0)])
 .ret)
 (.seq
 (.reg false [p (.load (some 5) (.v 1)),
 p (.bsl 1 [.k (.int .i64 0),.k (.int .i64 1),.k (.int .i64 2)]),
 p (.call true (.k (.fn 128 [] [])) [.r 1,.r 0]),
 p (.bin .eql (.r 0) (.k (.int .i64 0))),
 p (.mov (.r 0))] [(16,.r 0)])
 (.cond (.v 16)
 (.seq
 (.reg false [p (.mov (.k (.int .i64 3)))] [(2,.r 0)])
 .ret)
 .skip)))))))
 (.seq
 (.reg false [p (.mov (.k (.int .i64 0)))] [(2,.r 0)])
 .ret)))
def r124:List RV:=[.t 2]
theorem en124:EnP Tryz.prog 124 21 c124 r124:=mkEnP (by kernel_rfl) Tryz.func124 (by kernel_rfl) ⟨_,rfl,by kernel_rfl,by kernel_rfl⟩
def c176:C :=
  (.seq
 (.reg false [p (.mov (.k (.bool false)))] [(0,.v 0),(1,.v 1)])
 (.seq
 (.reg false [p (.fad 4 (.v 1)),
 p (.load (none) (.r 0)),
 p (.mov (.v 0)),
 p (.iad 5 (.r 1) (.r 0)),
 p (.fad 0 (.r 0)),
 p (.load (none) (.r 0)),
 p (.bin .neq (.r 0) (.k (.int .i64 3))),
 p (.mov (.r 0))] [(3,.r 0)])
 .ret))
def r176:List RV:=[.t 3]
theorem chk176:Chk Tryz.prog Tryz.f176 c176 r176:=⟨_,rfl,by kernel_rfl,by kernel_rfl⟩
theorem ena176:EnA Tryz.prog 176 11 c176 r176:=mkEnA (by kernel_rfl) Tryz.func176 (by kernel_rfl) chk176
def c127:C :=
  (.seq
 (.reg false [p (.box 5 (.v 0)),
 p (.mov (.k (.bool false)))] [(1,.v 1),(2,.r 1)])
 (.seq
 (.reg false [p (.fad 1 (.v 2)),
 p (.fad 1 (.r 0)),
 p (.load (none) (.r 0)),
 p (.mov (.v 1)),
 p (.iad 4 (.r 1) (.r 0)),
 p (.fad 0 (.r 0)),
 p (.load (none) (.r 0)),
 p (.mkf 176 [] [.v 2]),
 p (.call false (.k (.fn 175 [] [])) [.r 1,.r 0]),
 p (.un .not (.r 0)),
 p (.mov (.r 0))] [(4,.r 0)])
 .ret))
def r127:List RV:=[.t 4]
theorem en127:EnP Tryz.prog 127 15 c127 r127:=mkEnP (by kernel_rfl) Tryz.func127 (by kernel_rfl) ⟨_,rfl,by kernel_rfl,by kernel_rfl⟩
def c218:C :=
  (.seq
 (.reg false [p (.box 5 (.v 0)),
 p (.box 1 (.v 1)),
 p (.mov (.k (.int .i64 0)))] [(2,.r 2),(3,.r 1)])
 (.seq
 (.reg false [p (.alloc 1 (.int .i64 0)),
 p (.store (none) (.r 0) (.k (.int .i64 (-1))))] [(2,.v 2),(3,.v 3),(5,.r 1)])
 (.seq
 (.seq
 (.reg false [p (.load (some 5) (.v 2)),
 p (.call true (.k (.fn 125 [] [])) [.r 0])] [(2,.v 2),(3,.v 3),(5,.v 5),(9,.r 0)])
 (.block 0
 (.rf (.v 9) [10,11]
 (.seq
 (.reg false [p (.mov (.v 10))] [(2,.v 2),(3,.v 3),(5,.v 5),(6,.r 0),(11,.v 11)])
 (.reg false [p (.alloc 5 (.agg [.int .i64 0,.int .i64 0,.int .i64 0,.int .i64 0,.str []])),
 p (.store (some 5) (.r 0) (.v 11))] [(2,.v 2),(3,.v 3),(5,.v 5),(6,.v 6),(7,.r 1)]))
 (.block 1
 (.seq
 (.reg true [p (.fad 0 (.v 7)),
 p (.load (none) (.r 0)),
 p (.bin .eql (.r 0) (.k (.int .i64 2))),
 p (.mov (.r 0)),
 ⟨.fad 2 (.v 7),some (0,true),[]⟩,
 ⟨.load (none) (.r 0),some (1,true),[]⟩,
 ⟨.load (none) (.v 3),some (2,true),[]⟩,
 ⟨.call true (.k (.fn 236 [] [])) [.r 0,.k (.fsl .nil 1 [])],some (3,true),[]⟩,
 ⟨.bin .leq (.r 2) (.r 0),some (4,true),[]⟩,
 p (.pick (.r 5) (.r 0) (.k (.bool false))),
 p (.mov (.r 0)),
 ⟨.load (none) (.v 5),some (0,true),[]⟩,
 ⟨.bin .lss (.r 0) (.k (.int .i64 0)),some (1,true),[]⟩,
 ⟨.mov (.r 0),some (2,true),[]⟩,
 ⟨.fad 2 (.v 7),some (0,false),[]⟩,
 ⟨.load (none) (.r 0),some (1,false),[]⟩,
 ⟨.fad 4 (.v 2),some (2,false),[]⟩,
 ⟨.load (none) (.r 0),some (3,false),[]⟩,
 ⟨.load (none) (.v 5),some (4,false),[]⟩,
 ⟨.iad 5 (.r 1) (.r 0),some (5,false),[]⟩,
 ⟨.fad 2 (.r 0),some (6,false),[]⟩,
 ⟨.load (none) (.r 0),some (7,false),[]⟩,
 ⟨.bin .lss (.r 6) (.r 0),some (8,false),[]⟩,
 ⟨.pick (.r 9) (.k (.bool true)) (.r 0),some (12,true),[]⟩,
 p (.pick (.r 13) (.r 0) (.k (.bool false)))] [(5,.v 5),(6,.v 6),(36,.r 0)])
 (.cond (.v 36)
 (.reg false [p (.mov (.v 6)),
 p (.store (none) (.v 5) (.r 0))] [])
 .skip))))))
 (.seq
 (.reg false [p (.load (none) (.v 5)),
 p (.mov (.r 0))] [(4,.r 0)])
 .ret))))
def r218:List RV:=[.t 4]
theorem en218:EnP Tryz.prog 218 39 c218 r218:=mkEnP (by kernel_rfl) Tryz.func218 (by kernel_rfl) ⟨_,rfl,by kernel_rfl,by kernel_rfl⟩
def c206:C :=
  (.seq
 (.reg false [p (.mov (.k (.fsl .nil 5 [])))] [(0,.v 0)])
 (.seq
 (.seq
 (.reg false [p (.mov (.v 0)),
 p (.eqn false .s (.r 0))] [(0,.v 0),(4,.r 0)])
 (.cond (.v 4)
 (.seq
 (.reg false [p (.mov (.k (.fsl .nil 5 [])))] [(2,.r 0)])
 .ret)
 .skip))
 (.seq
 (.reg false [p (.bsl 5 []),
 p (.mov (.v 0)),
 p (.app 5 48 (.r 1) (.r 0)),
 p (.mov (.r 0))] [(2,.r 0)])
 .ret)))
def r206:List RV:=[.t 2]
theorem chk206:Chk Tryz.prog Tryz.f206 c206 r206:=⟨_,rfl,by kernel_rfl,by kernel_rfl⟩
theorem ena206:EnA Tryz.prog 206 8 c206 r206:=mkEnA (by kernel_rfl) Tryz.func206 (by kernel_rfl) chk206
def c57:C :=
  (.seq
 (.reg false [p (.box 5 (.v 0)),
 p (.alloc 1 (.bool false))] [(1,.r 1),(2,.r 0)])
 (.seq
 (.seq
 (.reg true [p (.fad 0 (.v 1)),
 p (.load (none) (.r 0)),
 p (.call true (.k (.fn 123 [] [])) [.r 0]),
 p (.un .not (.r 0)),
 p (.mov (.r 0)),
 ⟨.fad 1 (.v 1),some (0,false),[]⟩,
 ⟨.load (some 2) (.r 0),some (1,false),[]⟩,
 ⟨.call true (.k (.fn 54 [] [])) [.r 0],some (2,false),[]⟩,
 ⟨.bin .neq (.r 0) (.k (.int .i64 0)),some (3,false),[]⟩,
 p (.pick (.r 4) (.k (.bool true)) (.r 0)),
 p (.mov (.r 0)),
 ⟨.fad 4 (.v 1),some (0,false),[]⟩,
 ⟨.load (none) (.r 0),some (1,false),[]⟩,
 ⟨.len false (.r 0),some (2,false),[]⟩,
 ⟨.fad 1 (.v 1),some (3,false),[]⟩,
 ⟨.fad 1 (.r 0),some (4,false),[]⟩,
 ⟨.load (none) (.r 0),some (5,false),[]⟩,
 ⟨.len false (.r 0),some (6,false),[]⟩,
 ⟨.bin .neq (.r 4) (.r 0),some (7,false),[]⟩,
 p (.pick (.r 8) (.k (.bool true)) (.r 0)),
 p (.mov (.r 0)),
 ⟨.fad 3 (.v 1),some (0,false),[]⟩,
 ⟨.load (none) (.r 0),some (1,false),[]⟩,
 ⟨.load (some 5) (.v 1),some (2,false),[]⟩,
 ⟨.call true (.k (.fn 124 [] [])) [.r 0],some (3,false),[]⟩,
 ⟨.bin .neq (.r 2) (.r 0),some (4,false),[]⟩,
 p (.pick (.r 5) (.k (.bool true)) (.r 0))] [(1,.v 1),(2,.v 2),(33,.r 0)])
 (.cond (.v 33)
 (.seq
 (.reg false [p (.store (none) (.v 2) (.k (.bool false)))] [(2,.v 2)])
 .ret)
 .skip))
 (.seq
 (.reg false [p (.mkm),
 p (.alloc 1 (.nilm)),
 p (.store (none) (.r 0) (.r 1))] [(1,.v 1),(2,.v 2),(3,.r 1)])
 (.seq
 (.seq
 (.reg false [p (.load (some 5) (.v 1)),
 p (.call true (.k (.fn 125 [] [])) [.r 0])] [(1,.v 1),(2,.v 2),(3,.v 3),(36,.r 0)])
 (.block 0
 (.rf (.v 36) [37,38]
 (.seq
 (.reg false [p (.mov (.v 37))] [(1,.v 1),(2,.v 2),(3,.v 3),(4,.r 0),(38,.v 38)])
 (.reg false [p (.alloc 5 (.agg [.int .i64 0,.int .i64 0,.int .i64 0,.int .i64 0,.str []])),
 p (.store (some 5) (.r 0) (.v 38))] [(1,.v 1),(2,.v 2),(3,.v 3),(4,.v 4),(5,.r 1)]))
 (.block 1
 (.seq
 (.seq
 (.reg true [p (.fad 1 (.v 1)),
 p (.fad 1 (.r 0)),
 p (.load (none) (.r 0)),
 p (.mov (.v 4)),
 p (.iad 4 (.r 1) (.r 0)),
 p (.load (some 4) (.r 0)),
 p (.load (some 5) (.v 5)),
 p (.call true (.k (.fn 126 [] [])) [.r 1,.r 0]),
 p (.un .not (.r 0)),
 p (.mov (.r 0)),
 ⟨.fad 3 (.v 5),some (0,false),[]⟩,
 ⟨.load (none) (.r 0),some (1,false),[]⟩,
 ⟨.bin .gtr (.r 0) (.k (.int .i64 0)),some (2,false),[]⟩,
 ⟨.mov (.r 0),some (3,false),[]⟩,
 ⟨.load (none) (.v 3),some (0,true),[]⟩,
 ⟨.fad 3 (.v 5),some (1,true),[]⟩,
 ⟨.load (none) (.r 0),some (2,true),[]⟩,
 ⟨.mlk false [7] (.bool false) (.r 2) (.r 0),some (3,true),[]⟩,
 ⟨.pick (.r 4) (.r 0) (.k (.bool false)),some (8,false),[]⟩,
 p (.pick (.r 9) (.k (.bool true)) (.r 0))] [(1,.v 1),(2,.v 2),(3,.v 3),(4,.v 4),(5,.v 5),(58,.r 0)])
 (.cond (.v 58)
 (.seq
 (.reg false [p (.store (none) (.v 2) (.k (.bool false)))] [])
 .ret)
 .skip))
 (.seq
 (.reg false [p (.load (none) (.v 3)),
 p (.fad 3 (.v 5)),
 p (.load (none) (.r 0)),
 p (.mup [7] (.r 2) (.r 0) (.k (.bool true)))] [(1,.v 1),(2,.v 2),(4,.v 4),(5,.v 5)])
 (.seq
 (.reg true [p (.fad 0 (.v 5)),
 p (.load (none) (.r 0)),
 p (.bin .neq (.r 0) (.k (.int .i64 5))),
 p (.mov (.r 0)),
 ⟨.fad 0 (.v 5),some (0,true),[]⟩,
 ⟨.load (none) (.r 0),some (1,true),[]⟩,
 ⟨.bin .eql (.r 0) (.k (.int .i64 0)),some (2,true),[]⟩,
 ⟨.load (some 5) (.v 1),some (3,true),[]⟩,
 ⟨.mov (.v 4),some (4,true),[]⟩,
 ⟨.call true (.k (.fn 127 [] [])) [.r 1,.r 0],some (5,true),[]⟩,
 ⟨.eqb false (.r 3) (.r 0),some (6,true),[]⟩,
 p (.pick (.r 7) (.r 0) (.k (.bool false)))] [(2,.v 2),(73,.r 0)])
 (.cond (.v 73)
 (.seq
 (.reg false [p (.store (none) (.v 2) (.k (.bool false)))] [])
 .ret)
 .skip))))))))
 (.seq
 (.reg false [p (.load (some 5) (.v 1)),
 p (.bsl 1 [.k (.int .i64 0),.k (.int .i64 1),.k (.int .i64 2)]),
 p (.call true (.k (.fn 128 [] [])) [.r 1,.r 0]),
 p (.mov (.r 0))] [(1,.v 1),(2,.v 2),(6,.r 0)])
 (.seq
 (.seq
 (.reg false [p (.fad 3 (.v 1)),
 p (.load (none) (.r 0))] [(1,.v 1),(2,.v 2),(6,.v 6),(78,.r 0)])
 (.block 2
 (.seq
 (.reg false [p (.bin .eql (.v 78) (.k (.int .i64 2))),
 p (.mov (.r 0))] [(1,.v 1),(2,.v 2),(6,.v 6),(78,.v 78),(79,.r 0)])
 (.cond (.v 79)
 (.seq
 (.reg false [p (.mov (.v 6)),
 p (.bin .eql (.r 0) (.k (.int .i64 0))),
 p (.store (none) (.v 2) (.r 0))] [(2,.v 2)])
 .ret)
 (.seq
 (.reg false [p (.bin .eql (.v 78) (.k (.int .i64 0))),
 p (.mov (.r 0))] [(1,.v 1),(2,.v 2),(83,.r 0)])
 (.cond (.v 83)
 (.seq
 (.reg false [p (.load (some 5) (.v 1)),
 p (.bsl 1 [.k (.int .i64 5)]),
 p (.call true (.k (.fn 128 [] [])) [.r 1,.r 0]),
 p (.bin .eql (.r 0) (.k (.int .i64 0))),
 p (.store (none) (.v 2) (.r 0))] [(2,.v 2)])
 .ret)
 .skip))))))
 (.seq
 (.reg false [p (.store (none) (.v 2) (.k (.bool true)))] [(2,.v 2)])
 .ret)))))))
def r57:List RV:=[.c 2 (none)]
theorem en57:EnP Tryz.prog 57 89 c57 r57:=mkEnP (by kernel_rfl) Tryz.func57 (by kernel_rfl) ⟨_,rfl,by kernel_rfl,by kernel_rfl⟩
def c200:C :=
  (.seq
 (.reg false [p (.box 5 (.v 0)),
 p (.alloc 5 (.agg [.str [],.str [],.fsl .nil 4 [],.int .i64 0,.fsl .nil 5 []]))] [(1,.r 1),(2,.r 0)])
 (.seq
 (.reg false [p (.fad 4 (.v 1)),
 p (.load (none) (.r 0)),
 p (.call false (.k (.fn 206 [] [])) [.r 0]),
 p (.fad 4 (.v 1)),
 p (.store (none) (.r 0) (.r 1))] [(1,.v 1),(2,.v 2)])
 (.seq
 (.seq
 (.reg false [p (.load (some 5) (.v 1)),
 p (.bsl 1 [.k (.int .i64 4)]),
 p (.call false (.k (.fn 128 [] [])) [.r 1,.r 0]),
 p (.bin .gtr (.r 0) (.k (.int .i64 0)))] [(1,.v 1),(2,.v 2),(14,.r 0)])
 (.cond (.v 14)
 (.seq
 (.seq
 (.reg false [p (.fad 4 (.v 1)),
 p (.load (none) (.r 0)),
 p (.len false (.r 0)),
 p (.mov (.k (.int .i64 0)))] [(1,.v 1),(2,.v 2),(16,.r 2),(17,.r 1),(18,.r 0)])
 (.block 0
 (.loop
 (.seq
 (.reg false [p (.bin .lss (.v 18) (.v 17))] [(1,.v 1),(2,.v 2),(16,.v 16),(17,.v 17),(18,.v 18),(19,.r 0)])
 (.seq
 (.cond (.v 19)
 .skip
 (.exit 0))
 (.seq
 (.block 1
 (.seq
 (.reg false [p (.mov (.v 18)),
 p (.iad 5 (.v 16) (.v 18)),
 p (.load (some 5) (.r 0)),
 p (.alloc 5 (.agg [.int .i64 0,.int .i64 0,.int .i64 0,.int .i64 0,.str []])),
 p (.mov (.r 3)),
 p (.store (some 5) (.r 1) (.r 2))] [(1,.v 1),(2,.v 2),(3,.r 1),(4,.r 2),(16,.v 16),(17,.v 17),(18,.v 18)])
 (.reg true [p (.fad 4 (.v 1)),
 p (.load (none) (.r 0)),
 p (.mov (.v 3)),
 p (.load (some 5) (.v 4)),
 p (.call true (.k (.fn 217 [] [])) [.r 0]),
 p (.iad 5 (.r 3) (.r 2)),
 p (.store (some 5) (.r 0) (.r 1))] [(1,.v 1),(2,.v 2),(16,.v 16),(17,.v 17),(18,.v 18)])))
 (.reg false [p (.bin .add (.v 18) (.k (.int .i64 1))),
 p (.mov (.r 0))] [(1,.v 1),(2,.v 2),(16,.v 16),(17,.v 17),(18,.r 0)])))))))
 (.frz
 (.seq
 (.reg false [p (.fad 3 (.v 1)),
 p (.store (none) (.r 0) (.k (.int .i64 2)))] [(1,.v 1),(2,.v 2)])
 (.seq
 (.reg false [p (.load (some 5) (.v 1)),
 p (.store (some 5) (.v 2) (.r 0))] [(2,.v 2)])
 .ret))))
 .skip))
 (.frz
 (.seq
 (.seq
 (.reg false [p (.fad 4 (.v 1)),
 p (.load (none) (.r 0)),
 p (.len false (.r 0)),
 p (.mov (.k (.int .i64 0)))] [(1,.v 1),(2,.v 2),(33,.r 2),(34,.r 1),(35,.r 0)])
 (.block 2
 (.loop
 (.seq
 (.reg false [p (.bin .lss (.v 35) (.v 34))] [(1,.v 1),(2,.v 2),(33,.v 33),(34,.v 34),(35,.v 35),(36,.r 0)])
 (.seq
 (.cond (.v 36)
 .skip
 (.exit 2))
 (.seq
 (.block 3
 (.seq
 (.reg false [p (.mov (.v 35)),
 p (.iad 5 (.v 33) (.v 35)),
 p (.load (some 5) (.r 0)),
 p (.alloc 5 (.agg [.int .i64 0,.int .i64 0,.int .i64 0,.int .i64 0,.str []])),
 p (.mov (.r 3)),
 p (.store (some 5) (.r 1) (.r 2))] [(1,.v 1),(2,.v 2),(5,.r 1),(6,.r 2),(33,.v 33),(34,.v 34),(35,.v 35)])
 (.seq
 (.reg false [p (.load (some 5) (.v 1)),
 p (.mov (.v 5)),
 p (.call false (.k (.fn 127 [] [])) [.r 1,.r 0])] [(1,.v 1),(2,.v 2),(5,.v 5),(6,.v 6),(33,.v 33),(34,.v 34),(35,.v 35),(42,.r 0)])
 (.cond (.v 42)
 (.reg true [p (.fad 4 (.v 1)),
 p (.load (none) (.r 0)),
 p (.mov (.v 5)),
 p (.load (some 5) (.v 6)),
 p (.call true (.k (.fn 233 [] [])) [.r 0]),
 p (.iad 5 (.r 3) (.r 2)),
 p (.store (some 5) (.r 0) (.r 1))] [(1,.v 1),(2,.v 2),(33,.v 33),(34,.v 34),(35,.v 35)])
 .skip))))
 (.reg false [p (.bin .add (.v 35) (.k (.int .i64 1))),
 p (.mov (.r 0))] [(1,.v 1),(2,.v 2),(33,.v 33),(34,.v 34),(35,.r 0)])))))))
 (.frz
 (.seq
 (.seq
 (.reg true [p (.load (some 5) (.v 1)),
 p (.bsl 1 [.k (.int .i64 3)]),
 p (.call false (.k (.fn 128 [] [])) [.r 1,.r 0]),
 p (.fad 4 (.v 1)),
 ⟨.load (none) (.r 0),none,[1]⟩,
 p (.len false (.r 0)),
 p (.bin .eql (.r 3) (.r 0))] [(1,.v 1),(2,.v 2),(56,.r 0)])
 (.cond (.v 56)
 (.reg false [p (.fad 3 (.v 1)),
 p (.store (none) (.r 0) (.k (.int .i64 1)))] [(1,.v 1),(2,.v 2)])
 .skip))
 (.seq
 (.reg false [p (.load (some 5) (.v 1)),
 p (.store (some 5) (.v 2) (.r 0))] [(2,.v 2)])
 .ret))))))))
def r200:List RV:=[.c 2 (some 5)]
theorem en200:EnP Tryz.prog 200 59 c200 r200:=mkEnP (by kernel_rfl) Tryz.func200 (by kernel_rfl) ⟨_,rfl,by kernel_rfl,by kernel_rfl⟩
def stNumS (s:Stt):Bool:=decide (0≤s.is∧s.is≤5∧0≤s.tried∧s.tried≤8∧0≤s.due∧s.due≤1099511627776)
def standsS (s:Stt):Bool:=stNumS s && decide (0≤s.token∧s.token≤1099511627776∧(0 < s.token↔s.is=2)∧s.result.length≤16∧(s.result=[]∨s.is=3))
theorem task_stands (s:Stt) (hs:s.result.length≤4611686018427387904):PCall Tryz.prog 137 [sttV s] (.bool (standsS s)):=by
  refine en137 (by simp) (by simp [closedL,V.closed,sttV_closed]) ?_
  have no:stNumS s=false→standsS s=false:=fun h => by simp [standsS,h]
  simp (maxSteps:=1000000) (disch:=omega) only [rg,gD,simprocAttr,c137,sttV]
  by_cases c1:s.is < 0
  · simp (maxSteps:=1000000) (disch:=omega) only [rg,gD,simprocAttr,c1]
    (refine fin_x rfl ?_ ?_<;>simp [pack,lo,loL,V.closed,closedL,mv_closed,no (by simp [stNumS]; omega)])
  by_cases c2:5 < s.is
  · simp (maxSteps:=1000000) (disch:=omega) only [rg,gD,simprocAttr,c1,c2]
    (refine fin_x rfl ?_ ?_<;>simp [pack,lo,loL,V.closed,closedL,mv_closed,no (by simp [stNumS]; omega)])
  by_cases c3:s.tried < 0
  · simp (maxSteps:=1000000) (disch:=omega) only [rg,gD,simprocAttr,c1,c2,c3]
    (refine fin_x rfl ?_ ?_<;>simp [pack,lo,loL,V.closed,closedL,mv_closed,no (by simp [stNumS]; omega)])
  by_cases c4:8 < s.tried
  · simp (maxSteps:=1000000) (disch:=omega) only [rg,gD,simprocAttr,c1,c2,c3,c4]
    (refine fin_x rfl ?_ ?_<;>simp [pack,lo,loL,V.closed,closedL,mv_closed,no (by simp [stNumS]; omega)])
  by_cases c5:s.due < 0
  · simp (maxSteps:=1000000) (disch:=omega) only [rg,gD,simprocAttr,c1,c2,c3,c4,c5]
    (refine fin_x rfl ?_ ?_<;>simp [pack,lo,loL,V.closed,closedL,mv_closed,no (by simp [stNumS]; omega)])
  by_cases c6:1099511627776 < s.due
  · simp (maxSteps:=1000000) (disch:=omega) only [rg,gD,simprocAttr,c1,c2,c3,c4,c5,c6]
    (refine fin_x rfl ?_ ?_<;>simp [pack,lo,loL,V.closed,closedL,mv_closed,no (by simp [stNumS]; omega)])
  have yes:stNumS s=true:=by simp [stNumS]; omega
  have hS:standsS s=decide (0≤s.token∧s.token≤1099511627776∧(0 < s.token↔s.is=2)∧s.result.length≤16∧(s.result=[]∨s.is=3)):=by rw [standsS,yes,Bool.true_and]
  by_cases d1:s.token < 0
  · simp (maxSteps:=1000000) (disch:=omega) only [rg,gD,simprocAttr,c1,c2,c3,c4,c5,c6,d1]
    (refine fin_x rfl ?_ ?_<;>simp [pack,lo,loL,V.closed,closedL,mv_closed,hS.trans (decide_eq_false (by omega))])
  by_cases d2:1099511627776 < s.token
  · simp (maxSteps:=1000000) (disch:=omega) only [rg,gD,simprocAttr,c1,c2,c3,c4,c5,c6,d1,d2]
    (refine fin_x rfl ?_ ?_<;>simp [pack,lo,loL,V.closed,closedL,mv_closed,hS.trans (decide_eq_false (by omega))])
  simp (maxSteps:=1000000) (disch:=omega) only [rg,gD,simprocAttr,c1,c2,c3,c4,c5,c6,d1,d2]
  refine ⟨fun h => ?_,fun h => ⟨fun h2 => ⟨fun h3 => ?_,fun h3 => ?_⟩,fun h2 => ?_⟩⟩
  · have h':¬ (0 < s.token↔s.is=2):=fun hc => by simp [hc] at h
    (refine fin_x rfl ?_ ?_<;>simp [pack,lo,loL,V.closed,closedL,mv_closed,hS.trans (decide_eq_false (fun hc => h' hc.2.2.1))])
  · have h':(0 < s.token↔s.is=2):=by simpa using h
    have e:standsS s=decide (s.is=3):=by
      rw [hS]
      have:s.result.length≤16:=by omega
      by_cases c3:s.is=3
      · rw [decide_eq_true c3]; exact decide_eq_true ⟨by omega,by omega,h',this,.inr c3⟩
      · rw [decide_eq_false c3]; exact decide_eq_false (fun hc => hc.2.2.2.2.elim h3 c3)
    (refine fin_x rfl ?_ ?_<;>simp [pack,lo,loL,V.closed,closedL,mv_closed,e])
  · have h':(0 < s.token↔s.is=2):=by simpa using h
    (refine fin_x rfl ?_ ?_<;>simp [pack,lo,loL,V.closed,closedL,mv_closed,hS.trans (decide_eq_true ⟨by omega,by omega,h',by omega,.inl h3⟩)])
  · (refine fin_x rfl ?_ ?_<;>simp [pack,lo,loL,V.closed,closedL,mv_closed,hS.trans (decide_eq_false (by omega))])
abbrev MT:Int:=1099511627776
abbrev MW:Int:=1048576
def afterS (w t:Int):Int:=if w < 1∨t < 1 then 0 else min (w*2 ^ (t - 1).toNat) MW
def clampS (p:Int):Int:=min (max p 0) MT
def untilS (l:List Int):Int:=l.foldl (fun s p => min (s+clampS p) MT) 0
theorem untilS_range (l:List Int):0≤untilS l∧untilS l≤MT:=by
  have:∀ (l:List Int) (s:Int),0≤s∧s≤MT→0≤l.foldl (fun s p => min (s+clampS p) MT) s∧l.foldl (fun s p => min (s+clampS p) MT) s≤MT:=by
    intro l
    induction l with
    | nil => intro s h; exact h
    | cons a l ih => intro s h; exact ih _ (by simp only [clampS,MT] at *; omega)
  exact this l 0 (by simp [MT])
def zS:Stt:=⟨0,0,0,0,[]⟩
def TRightP (t:Task) (s:Stt):Prop:=s.tried≤t.tries∧((s.is=0∧s.tried=0∧s.due=0)∨(s.is=1∧s.tried < t.tries)∨(s.is=2∧1≤s.tried)∨(s.is=3∧1≤s.tried∧s.due=0)∨(s.is=4∧s.tried=t.tries∧s.due=0)∨(s.is=5∧s.due=0))
instance (t:Task) (s:Stt):Decidable (TRightP t s):=by unfold TRightP; infer_instance
def trightS (t:Task) (s:Stt):Bool:=standsS s && decide (TRightP t s)
def treadyS (s:Stt):Stt:=if s.is=0 then { s with is:=1 } else s
def tleaseS (t:Task) (s:Stt) (now token:Int):Stt×Int :=
  if token < 1∨MT < token then (zS,1) else if s.is≠1∨untilS [now] < s.due then (zS,192) else (⟨2,s.tried+1,untilS [now,t.lease],token,s.result⟩,0)
def tbeatS (t:Task) (s:Stt) (now:Int):Stt×Int:=if s.is≠2 then (zS,191) else ({ s with due:=untilS [now,t.lease] },0)
def tdoneS (s:Stt) (r:Str):Stt×Int:=if s.is≠2 then (zS,191) else if 16 < r.length then (zS,1) else (⟨3,s.tried,0,0,r⟩,0)
def tfailS (t:Task) (s:Stt) (now:Int):Stt×Int :=
  if s.is≠2 then (zS,191) else if t.tries≤s.tried then (⟨4,s.tried,0,0,s.result⟩,0) else (⟨1,s.tried,untilS [now,afterS t.wait s.tried],0,s.result⟩,0)
def texpireS (t:Task) (s:Stt) (now:Int):Stt:=if s.is≠2∨untilS [now] < s.due then s else (tfailS t s s.due).1
def tcancelS (s:Stt):Stt:=if s.is=0∨s.is=1∨s.is=2 then { s with is:=5,due:=0,token:=0 } else s
def seV (p:Stt×Int):V:=.tup [sttV p.1,.int .i64 p.2]
def riseS:Int→List Int→Int→Bool
  | _,[],_ => true
  | last,x::xs,n => !decide (x≤last) && (!decide (n≤x) && riseS x xs n)
def taskNumS (t:Task):Bool:=decide (1≤t.tries∧t.tries≤8∧0≤t.wait∧t.wait≤1048576∧1≤t.lease∧t.lease≤1048576)
def taskOkS (t:Task) (n:Int):Bool:=riseS (-1) t.needs n && taskNumS t
theorem vI_len (l:List Int):(vI l).length=l.length:=mv_len
theorem vI_get {l:List Int} {i:Nat} (h:i < l.length):(vI l)[i]?=some (.int .i64 l[i]):=mv_get h
theorem vB_get {l:List Bool} {i:Nat} (h:i < l.length):(vB l)[i]?=some (.bool l[i]):=mv_get h
theorem dag_task (t:Task) (n:Int) (hl:t.needs.length≤4611686018427387904):PCall Tryz.prog 116 [taskV t,.int .i64 n] (.bool (taskOkS t n)):=by
  refine en116 (by simp) (by simp [closedL,V.closed,taskV_closed]) ?_
  simp (maxSteps:=1000000) (disch:=omega) only [rg,gD,simprocAttr,c116,taskV,vI_len]
  refine x_it t.needs.length (fun i σ H => H.m 0=some (.arr 4 [.agg [.fsl .loose 1 (vI t.needs),.int .i64 t.tries,.int .i64 t.wait,.int .i64 t.lease]])∧∃ last,riseS (-1) t.needs n=riseS last (t.needs.drop i) n∧σ=[(1,.int .i64 n),(2,.ptr 0 0 0),(5,.int .i64 last),(9,.fsl .loose 1 (vI t.needs)),(10,.int .i64 t.needs.length),(11,.int .i64 i)]) ⟨by simp [upd],-1,by simp,rfl⟩ ?_
  rintro T i σ ⟨q,m⟩ hi ⟨e0,last,hr,rfl⟩ hN hX hR
  simp only at e0
  simp (maxSteps:=1000000) (disch:=omega) only [rg,gD,simprocAttr]
  refine ⟨fun h => ?_,fun h => ?_⟩
  · have i1:i < t.needs.length:=by omega
    have hd:t.needs.drop i=t.needs[i]::t.needs.drop (i+1):=List.drop_eq_getElem_cons i1
    rw [hd,riseS] at hr
    simp (maxSteps:=1000000) (disch:=omega) only [rg,gD,simprocAttr,vI_get]
    by_cases c1:t.needs[i]≤last
    · simp (maxSteps:=1000000) (disch:=omega) only [rg,gD,simprocAttr,c1]
      refine hR _ _ ?_
      simp (maxSteps:=1000000) (disch:=omega) only [rg,gD,simprocAttr]
      (refine fin_x rfl ?_ ?_<;>simp [pack,lo,loL,V.closed,closedL,mv_closed,taskOkS,hr,c1])
    · by_cases c2:n≤t.needs[i]
      · simp (maxSteps:=1000000) (disch:=omega) only [rg,gD,simprocAttr,c1,c2]
        refine hR _ _ ?_
        simp (maxSteps:=1000000) (disch:=omega) only [rg,gD,simprocAttr]
        (refine fin_x rfl ?_ ?_<;>simp [pack,lo,loL,V.closed,closedL,mv_closed,taskOkS,hr,c1,c2])
      · simp (maxSteps:=1000000) (disch:=omega) only [rg,gD,simprocAttr,c1,c2]
        exact hN _ _ i1 ⟨e0,t.needs[i],by rw [hr]; simp [c1,c2],rfl⟩
  · obtain rfl:i=t.needs.length:=by omega
    rw [List.drop_length,riseS] at hr
    refine hX _ _ _ ?_
    simp (maxSteps:=1000000) (disch:=omega) only [rg,gD,simprocAttr]
    refine x_frz0 ?_
    by_cases c1:1≤t.tries
    · by_cases c2:t.tries≤8
      · by_cases c3:0≤t.wait
        · by_cases c4:t.wait≤1048576
          · by_cases c5:1≤t.lease
            · by_cases c6:t.lease≤1048576
              · simp (maxSteps:=1000000) (disch:=omega) only [rg,gD,simprocAttr,e0,c1,c2,c3,c4,c5,c6]
                (refine fin_x rfl ?_ ?_<;>simp [pack,lo,loL,V.closed,closedL,mv_closed,taskOkS,taskNumS,hr,c1,c2,c3,c4,c5,c6])
              · simp (maxSteps:=1000000) (disch:=omega) only [rg,gD,simprocAttr,e0,c1,c2,c3,c4,c5,c6]
                (refine fin_x rfl ?_ ?_<;>simp [pack,lo,loL,V.closed,closedL,mv_closed,taskOkS,taskNumS,hr,c6])
            · simp (maxSteps:=1000000) (disch:=omega) only [rg,gD,simprocAttr,e0,c1,c2,c3,c4,c5]
              (refine fin_x rfl ?_ ?_<;>simp [pack,lo,loL,V.closed,closedL,mv_closed,taskOkS,taskNumS,hr,c5])
          · simp (maxSteps:=1000000) (disch:=omega) only [rg,gD,simprocAttr,e0,c1,c2,c3,c4]
            (refine fin_x rfl ?_ ?_<;>simp [pack,lo,loL,V.closed,closedL,mv_closed,taskOkS,taskNumS,hr,c4])
        · simp (maxSteps:=1000000) (disch:=omega) only [rg,gD,simprocAttr,e0,c1,c2,c3]
          (refine fin_x rfl ?_ ?_<;>simp [pack,lo,loL,V.closed,closedL,mv_closed,taskOkS,taskNumS,hr,c3])
      · simp (maxSteps:=1000000) (disch:=omega) only [rg,gD,simprocAttr,e0,c1,c2]
        (refine fin_x rfl ?_ ?_<;>simp [pack,lo,loL,V.closed,closedL,mv_closed,taskOkS,taskNumS,hr,c2])
    · simp (maxSteps:=1000000) (disch:=omega) only [rg,gD,simprocAttr,e0,c1]
      (refine fin_x rfl ?_ ?_<;>simp [pack,lo,loL,V.closed,closedL,mv_closed,taskOkS,taskNumS,hr,c1])
def freeB (t:Task) (done:List Bool) (i:Nat):Bool:=!done.getD i false && t.needs.all fun x => done.getD x.toNat false
def freeS (ts:List Task) (done:List Bool) (k:Nat):List Int:=(((ts.take k).zipIdx).filter fun p => freeB p.1 done p.2).map fun p => (p.2:Int)
theorem freeS_succ {ts:List Task} {done:List Bool} {k:Nat} (h:k < ts.length):freeS ts done (k+1)=if freeB ts[k] done k=true then freeS ts done k++[(k:Int)] else freeS ts done k:=by
  rw [freeS,List.take_succ_eq_append_getElem h,List.zipIdx_append,List.filter_append,List.map_append]
  have:min k ts.length=k:=by omega
  simp only [List.length_take,this,List.zipIdx_cons,List.zipIdx_nil,List.filter_cons,List.filter_nil,Nat.zero_add]
  split<;>simp [freeS]
theorem freeS_len (ts:List Task) (done:List Bool) (k:Nat):(freeS ts done k).length≤k:=by
  simp only [freeS,List.length_map]
  refine Nat.le_trans (List.length_filter_le _ _) ?_
  simp; omega
theorem free_clo (H:Hp) (b d:Nat) (done:List Bool) (i:Int) (hb:b < H.n) (hd:d < H.n) (h1:H.m b=some (.arr 1 [.sl d 0 done.length])) (h2:H.m d=some (.arr 1 (vB done))) (hi:0≤i∧i < done.length) :
    ACall Tryz.prog 222 [.int .i64 i,.ptr b 0 0] H [b,d] (.bool (!done.getD i.toNat false)) [] 0:=by
  have hne:b≠d:=by rintro rfl; rw [h1] at h2; cases done with
    | nil => simp [vB,mv] at h2
    | cons x l => simp [vB,mv] at h2
  refine ena222 (by simp) (by simp [lowL,V.low,hb]) (fun id hid => ?_) (by simp) ?_
  · simp at hid
    rcases hid with rfl | rfl
    · exact ⟨hb,fun o ho => by rw [h1] at ho; simp at ho; subst ho; simp [Ob.low,lowL,V.low,hd]⟩
    · exact ⟨hd,fun o ho => by rw [h2] at ho; simp at ho; subst ho; exact lowL_closed _ vB_closed⟩
  have q1:only [b,d] H.m b=some (.arr 1 [.sl d 0 done.length]):=by simp [only,h1]
  have q2:only [b,d] H.m d=some (.arr 1 (vB done)):=by simp [only,h2]
  have hlt:i.toNat < done.length:=by omega
  simp (maxSteps:=1000000) (disch:=omega) only [rg,gD,simprocAttr,c222,q1,q2,vB_get]
  refine ⟨by omega,fin_A (l:=[.bool (!done[i.toNat])]) rfl (.inl (by simp [pack,List.getD_eq_getElem?_getD,hlt])) (by simp) (fun id => .inr rfl)⟩
theorem con_ints {st:St} {rows:List Int} {fs cs:List V} {g:Nat} {q:Int→Bool} {H:Hp} {fp:List Nat} {kk:Nat} (hn:rows.length≤1000000) (hl:lowL H.n fs=true) (hl':lowL H.n cs=true) (hfp:FpOk H fp)
    (hg:∀ x∈rows,∀ H':Hp,H.n≤H'.n→(∀ id∈fp,H'.m id=H.m id)→ACall Tryz.prog g (fs++[.int .i64 x]++cs) H' fp (.bool (q x)) [] kk) :
    ACall Tryz.prog 175 [.fsl st 1 (vI rows),.fn g fs cs] H fp (.bool (rows.any q)) [] (rows.length*kk):=by
  have:=con_gen (f:=175) (f2:=223) (sz:=1) (k:=none) (st:=st) (rows:=vI rows) (fs:=fs) (cs:=cs) (g:=g) (q:=fun v => match v with | .int _ n => q n | _ => false) (H:=H) (fp:=fp) (kk:=kk)
    ena175 ena223 (by decide) (by decide) vI_closed (fun e he => by obtain ⟨a,_,rfl⟩:=mv_mem he; rfl) (by rw [vI_len]; omega) hl hl' hfp
    (fun e he H' h1 h2 => by obtain ⟨a,ha,rfl⟩:=mv_mem he; exact hg a ha H' h1 h2)
  rw [vI_len] at this
  have e:(vI rows).any (fun v => match v with | .int _ n => q n | _ => false)=rows.any q:=by simp [vI,mv,List.any_map]; rfl
  rwa [e] at this
def inR (ts:List Task) (n:Nat):Prop:=∀ t∈ts,∀ x∈t.needs,0≤x∧x < n
theorem dag_free (st:St) (ts:List Task) (done:List Bool) (d:Nat) (H:Hp) (hn:ts.length=done.length) (hl:ts.length≤10) (hnl:∀ t∈ts,t.needs.length≤1000000) (hin:inR ts done.length) (hd:d < H.n) (hm:H.m d=some (.arr 1 (vB done))) :
    ACall Tryz.prog 173 [.fsl st 4 (mv taskV ts),.sl d 0 done.length] H [d] (.fsl .loose 1 (vI (freeS ts done ts.length))) [] 100:=by
  refine ena173 (by simp) (by simp [lowL,V.low,hd,lowL_closed _ (mv_closed taskV_closed)]) (fun id hid => ?_) (by simp) ?_
  · simp at hid; subst hid
    exact ⟨hd,fun o ho => by rw [hm] at ho; simp at ho; subst ho; exact lowL_closed _ vB_closed⟩
  have q2:only [d] H.m d=some (.arr 1 (vB done)):=by simp [only,hm]
  have hdn:d≠H.n:=by omega
  simp (maxSteps:=1000000) (disch:=omega) only [rg,gD,simprocAttr,c173]
  refine x_it ts.length (fun i σ H' => H'.n≤H.n+1+2*i∧H.n+1≤H'.n∧H'.m H.n=some (.arr 1 [.sl d 0 done.length])∧H'.m d=some (.arr 1 (vB done))∧∃ v,σ=[(5,.fn 222 [] [.ptr H.n 0 0]),(6,v),(10,.fsl st 4 (mv taskV ts)),(11,.int .i64 ts.length),(12,.int .i64 i)] ∧
    ((v=.fsl .nil 1 []∧freeS ts done i=[])∨∃ id,H.n < id∧id < H'.n∧v=.sl id 0 (freeS ts done i).length∧H'.m id=some (.arr 1 (vI (freeS ts done i))))) ?_ ?_
  · exact ⟨by simp,by simp,by simp [upd],by simp only [upd_ne hdn]; exact q2,_,rfl,.inl ⟨rfl,rfl⟩⟩
  rintro T i σ ⟨n',m⟩ hi ⟨hb1,hb2,e0,e1,v,rfl,hv⟩ hN hX hR
  simp only at hb1 hb2 e0 e1 hv
  simp (maxSteps:=1000000) (disch:=omega) only [rg,gD,simprocAttr]
  refine ⟨fun h => ?_,fun h => ?_⟩
  · have i1:i < ts.length:=by omega
    have hns:=freeS_succ (done:=done) i1
    have ht:=hin ts[i] (List.getElem_mem i1)
    have hl1:=hnl ts[i] (List.getElem_mem i1)
    have hfl:=freeS_len ts done i
    have hno:∀ b:Bool,freeB ts[i] done i=false→freeS ts done (i+1)=freeS ts done i:=fun _ hb => by rw [hns,if_neg (by rw [hb]; simp)]
    have hne1:H.n≠n':=by omega
    have hne2:d≠n':=by omega
    simp (maxSteps:=1000000) (disch:=omega) only [rg,gD,simprocAttr,taskV]
    refine ⟨_,_,_,_,free_clo _ H.n d done i (by simp only []; omega) (by simp only []; omega) (by simp (disch:=omega) only [upd_eq,upd_ne,wo_0,wo_1,wo_2,e0]) (by simp (disch:=omega) only [upd_eq,upd_ne,wo_0,wo_1,wo_2,e1]) (by omega), ?_⟩
    cases hdi:done.getD i false with
    | true =>
      have hfb:freeB ts[i] done i=false:=by simp only [freeB,hdi]; rfl
      simp (maxSteps:=1000000) (disch:=omega) only [rg,gD,simprocAttr,hdi]
      refine hN _ _ i1 ⟨by simp only []; omega,by simp only []; omega,(by simp (disch:=omega) only [upd_eq,upd_ne,wo_0,wo_1,wo_2,e0]),(by simp (disch:=omega) only [upd_eq,upd_ne,wo_0,wo_1,wo_2,e1]),_,rfl, ?_⟩
      rw [hno true hfb]
      rcases hv with ⟨rfl,he⟩ | ⟨id,h1,h2,rfl,h3⟩
      · exact .inl ⟨rfl,he⟩
      · exact .inr ⟨id,h1,by simp only []; omega,rfl,(by simp (disch:=omega) only [upd_eq,upd_ne,wo_0,wo_1,wo_2,h3])⟩
    | false =>
      simp (maxSteps:=1000000) (disch:=omega) only [rg,gD,simprocAttr,hdi]
      have hall:(ts[i].needs.any fun x => !done.getD x.toNat false)=!(ts[i].needs.all fun x => done.getD x.toNat false):=by rw [List.not_all_eq_any_not]
      refine ⟨_,_,_,_,con_ints (rows:=ts[i].needs) (q:=fun x => !done.getD x.toNat false) (fp:=[H.n,d]) (kk:=0) (by omega) rfl (by simp [lowL,V.low]; omega) (fun id hid => ?_) (fun x hx H' h1 h2 => ?_), ?_⟩
      · simp at hid
        rcases hid with rfl | rfl
        · exact ⟨by simp only []; omega,fun o ho => by simp only [upd_ne hne1,e0] at ho; simp at ho; subst ho; simp [Ob.low,lowL,V.low]; omega⟩
        · exact ⟨by simp only []; omega,fun o ho => by simp only [upd_ne hne2,e1] at ho; simp at ho; subst ho; exact lowL_closed _ vB_closed⟩
      · exact free_clo H' H.n d done x (by simp only [] at h1; omega) (by simp only [] at h1; omega) (by rw [h2 _ (by simp)]; exact (by simp (disch:=omega) only [upd_eq,upd_ne,wo_0,wo_1,wo_2,e0])) (by rw [h2 _ (by simp)]; exact (by simp (disch:=omega) only [upd_eq,upd_ne,wo_0,wo_1,wo_2,e1])) (ht x hx)
      · rw [hall]
        cases ha:ts[i].needs.all fun x => done.getD x.toNat false with
        | false =>
          have hfb:freeB ts[i] done i=false:=by simp only [freeB,ha]; simp
          simp (maxSteps:=1000000) (disch:=omega) only [rg,gD,simprocAttr]
          refine hN _ _ i1 ⟨by simp only []; omega,by simp only []; omega,(by simp (disch:=omega) only [upd_eq,upd_ne,wo_0,wo_1,wo_2,e0]),(by simp (disch:=omega) only [upd_eq,upd_ne,wo_0,wo_1,wo_2,e1]),_,rfl, ?_⟩
          rw [hno true hfb]
          rcases hv with ⟨rfl,he⟩ | ⟨id,h1,h2,rfl,h3⟩
          · exact .inl ⟨rfl,he⟩
          · exact .inr ⟨id,h1,by simp only []; omega,rfl,(by simp (disch:=omega) only [upd_eq,upd_ne,wo_0,wo_1,wo_2,h3])⟩
        | true =>
          have hfb:freeB ts[i] done i=true:=by simp only [freeB,ha,hdi]; rfl
          have hs2:vI (freeS ts done i)++[.int .i64 i]=vI (freeS ts done (i+1)):=by rw [hns,if_pos hfb]; exact mv_app1
          have hl3:(freeS ts done (i+1)).length=(freeS ts done i).length+1:=by rw [hns,if_pos hfb]; simp
          have ht3:List.take (freeS ts done i).length (vI (freeS ts done i))=vI (freeS ts done i):=List.take_of_length_le (by rw [vI_len]; omega)
          rcases hv with ⟨rfl,he⟩ | ⟨id,h1,h2,rfl,h3⟩
          · simp (maxSteps:=1000000) (disch:=omega) only [rg,gD,simprocAttr,appO,Nat.mul_zero]
            refine hN _ _ i1 ⟨by simp only []; omega,by simp only []; omega,(by simp (disch:=omega) only [upd_eq,upd_ne,wo_0,wo_1,wo_2,e0]),(by simp (disch:=omega) only [upd_eq,upd_ne,wo_0,wo_1,wo_2,e1]),_,rfl,.inr ⟨n'+1,by omega,by simp,by rw [hl3,he]; rfl,by rw [← hs2,he]; simp [upd,vI,mv]⟩⟩
          · simp (maxSteps:=1000000) (disch:=omega) only [rg,gD,simprocAttr,appO,h3,hs2,ht3,vI_len,Nat.mul_zero]
            exact ⟨by omega,hN _ _ i1 ⟨by simp only []; omega,by simp only []; omega,(by simp (disch:=omega) only [upd_eq,upd_ne,wo_0,wo_1,wo_2,e0]),(by simp (disch:=omega) only [upd_eq,upd_ne,wo_0,wo_1,wo_2,e1]),_,rfl,.inr ⟨n'+1,by omega,by simp,by rw [hl3],(by simp (disch:=omega) only [upd_eq,upd_ne,wo_0,wo_1,wo_2])⟩⟩⟩
  · obtain rfl:i=ts.length:=by omega
    refine hX _ _ _ ?_
    simp (maxSteps:=1000000) (disch:=omega) only [rg,gD,simprocAttr]
    rcases hv with ⟨rfl,he⟩ | ⟨id,h1,h2,rfl,h3⟩
    · refine x_frz0 ?_
      simp (maxSteps:=1000000) (disch:=omega) only [rg,gD,simprocAttr]
      exact fin_A (l:=[.fsl .nil 1 []]) rfl (.inr (.inl (by rw [he]; rfl))) (by simp only []; omega) (fun j => by
        by_cases hj:j=d
        · subst hj; right; simp only [appd,q2,e1]
        · left; simp [appd,only,hj])
    · refine x_frz [id] ?_; simp only [vr,frz_p]; rw [frz_row (id:=id) (sz:=1) (l:=vI (freeS ts done ts.length)) (by first | assumption | (simp [upd]; done) | (simp [upd, *]; done)) (by simp) (by first | rfl | (simp [mv_len,vI_len,vI_closed]<;>omega)) (by simp [mv_closed,V.closed,vI_len,vI_closed])]
      simp (maxSteps:=1000000) (disch:=omega) only [rg,gD,simprocAttr]
      exact fin_A (l:=[.fsl .loose 1 (vI (freeS ts done ts.length))]) rfl (.inl rfl) (by simp only []; omega) (fun j => by
        by_cases hj:j=d
        · subst hj; right
          simp only [appd,q2]
          rw [wo_1 (by omega)]; exact e1.symm
        · left; simp [appd,only,hj])
def orderS (ts:List Task):Nat→List Bool→List Int→List Int
  | 0,_,out => out
  | k+1,done,out => match freeS ts done ts.length with | [] => out | i::_ => orderS ts k (done.set i.toNat true) (out++[i])
theorem freeS_mem {ts:List Task} {done:List Bool} {x:Int} (h:x∈freeS ts done ts.length):∃ i:Nat,x=i∧∃ hi:i < ts.length,freeB ts[i] done i=true:=by
  simp only [freeS,List.mem_map,List.mem_filter,List.take_length] at h
  obtain ⟨⟨t,i⟩,⟨h1,h2⟩,rfl⟩:=h
  obtain ⟨_,h3,h4⟩:=List.mem_zipIdx h1
  simp at h3 h4
  exact ⟨i,rfl,h3,by rw [← h4]; exact h2⟩
theorem freeS_full {ts:List Task} {done:List Bool} (hl:ts.length=done.length) (h:done.count true=done.length):freeS ts done ts.length=[]:=by
  cases hf:freeS ts done ts.length with
  | nil => rfl
  | cons x l =>
    obtain ⟨i,rfl,hi,hb⟩:=freeS_mem (x:=x) (by rw [hf]; simp)
    have hd:done.getD i false=true:=by
      have:=(List.count_eq_length.1 h) done[i] (List.getElem_mem (by omega))
      rw [List.getD_eq_getElem?_getD]; simp [show i < done.length by omega,← this]
    rw [freeB,hd] at hb; simp at hb
theorem count_set {done:List Bool} {i:Nat} (hi:i < done.length) (h:done.getD i false=false):(done.set i true).count true=done.count true+1:=by
  rw [List.count_set hi]
  have:done[i]=false:=by simpa [List.getD_eq_getElem?_getD,hi] using h
  simp [this]
def orderF (ts:List Task):List Int:=orderS ts (ts.length+1) (List.replicate ts.length false) []
theorem dag_order (st:St) (ts:List Task) (hl:ts.length≤10) (hnl:∀ t∈ts,t.needs.length≤1000000) (hin:inR ts ts.length):PCall Tryz.prog 117 [.fsl st 4 (mv taskV ts)] (.fsl .loose 1 (vI (orderF ts))):=by
  refine en117 (by simp) (by simp [closedL,V.closed,mv_closed taskV_closed]) ?_
  simp (maxSteps:=1000000) (disch:=omega) only [rg,gD,simprocAttr,c117]
  refine ⟨by omega, ?_⟩
  refine x_it ts.length (fun i σ H => 1≤H.n∧∃ done out v,done.length=ts.length∧done.count true=i∧out.length=i∧orderF ts=orderS ts (ts.length+1 - i) done out∧H.m 0=some (.arr 1 (vB done))∧σ=[(0,.fsl st 4 (mv taskV ts)),(3,.sl 0 0 ts.length),(4,v)] ∧
    ((v=.fsl .nil 1 []∧out=[])∨∃ id,1≤id∧id < H.n∧v=.sl id 0 out.length∧H.m id=some (.arr 1 (vI out)))) ?_ ?_
  · exact ⟨Nat.le_refl 1,List.replicate ts.length false,[],_,by simp,by simp [List.count_replicate],rfl,rfl,by simp [upd,vB,mv],rfl,.inl ⟨rfl,rfl⟩⟩
  rintro T i σ ⟨q,m⟩ hi ⟨hq,done,out,v,h1,h2,h3,h4,e0,rfl,hv⟩ hN hX hR
  simp only at hq e0 hv
  have fr:=dag_free st ts done 0 ⟨q,m⟩ (by omega) hl hnl (by rw [h1]; exact hin) hq e0
  rw [h1] at fr
  have h5:ts.length+1 - i=(ts.length - i)+1:=by omega
  rw [h5,orderS] at h4
  simp (maxSteps:=1000000) (disch:=omega) only [rg,gD,simprocAttr]
  refine ⟨_,_,_,_,fr, ?_⟩
  cases hf:freeS ts done ts.length with
  | nil =>
    rw [hf] at h4; simp only at h4
    simp (maxSteps:=1000000) (disch:=omega) only [rg,gD,simprocAttr,vI_len,Int.natCast_zero]
    refine hR _ _ ?_
    simp (maxSteps:=1000000) (disch:=omega) only [rg,gD,simprocAttr]
    rcases hv with ⟨rfl,rfl⟩ | ⟨id,g1,g2,rfl,g3⟩
    · (refine fin_x rfl ?_ ?_<;>simp [pack,lo,loL,V.closed,closedL,mv_closed,h4,vI,mv])
    · refine fin_y (v:=.fsl .loose 1 (vI out)) rfl (snap_sl g3 vI_closed (vI_len out).symm) (by simp [lo,vI_lo,h4])
  | cons x l =>
    obtain ⟨k,hk,hk1,hk2⟩:=freeS_mem (x:=x) (by rw [hf]; simp)
    subst hk
    rw [hf] at h4; simp only at h4
    simp only [freeB,Bool.and_eq_true,Bool.not_eq_true'] at hk2
    have hdk:k < done.length:=by omega
    have hc:=count_set hdk hk2.1
    have hlt:i < ts.length:=by
      rcases Nat.lt_or_ge i ts.length with h | h
      · exact h
      · have:=freeS_full (ts:=ts) (by omega) (show done.count true=done.length by omega)
        rw [this] at hf; cases hf
    have hpos:¬ ((l.length+1:Nat):Int)=0:=by omega
    have hg0:(vI ((k:Int)::l))[0]?=some (.int .i64 k):=rfl
    simp (maxSteps:=1000000) (disch:=omega) only [rg,gD,simprocAttr,vI_len,hpos,hg0,show (0:Int).toNat=0 from rfl,e0,vB_get hdk,h1]
    refine ⟨by omega, ?_⟩
    have hset:(vB done).set k (.bool true)=vB (done.set k true):=mv_set
    have e6:ts.length+1 - (i+1)=ts.length - i:=by omega
    have hl3:(out++[(k:Int)]).length=out.length+1:=by simp
    have ho:vI out++[.int .i64 k]=vI (out++[(k:Int)]):=mv_app1
    rcases hv with ⟨rfl,rfl⟩ | ⟨id,g1,g2,rfl,g3⟩
    · simp (maxSteps:=1000000) (disch:=omega) only [rg,gD,simprocAttr,appO,hset]
      exact hN _ _ hlt ⟨by simp only []; omega,done.set k true,[]++[(k:Int)],_,by simpa using h1,by rw [hc,h2],by simp at h3 ⊢; omega,by rw [e6]; simpa using h4,(by simp (disch:=omega) only [upd_eq,upd_ne,wo_0,wo_1,wo_2]),rfl,.inr ⟨q+100,by omega,by simp,rfl,by rw [← ho]; simp [upd,vI,mv]⟩⟩
    · have ht3:List.take out.length (vI out)=vI out:=List.take_of_length_le (by rw [vI_len]; omega)
      have hid:id≠0:=by omega
      simp (maxSteps:=1000000) (disch:=omega) only [rg,gD,simprocAttr,appO,hset,g3,vI_len,ht3,ho]
      exact ⟨by omega,hN _ _ hlt ⟨by simp only []; omega,done.set k true,out++[(k:Int)],_,by simpa using h1,by rw [hc,h2],by rw [hl3,h3],by rw [e6]; simpa using h4,(by simp (disch:=omega) only [upd_eq,upd_ne,wo_0,wo_1,wo_2]),rfl,.inr ⟨q+100,by omega,by simp,by rw [hl3],(by simp (disch:=omega) only [upd_eq,upd_ne,wo_0,wo_1,wo_2])⟩⟩⟩
def dagRightS (d:Dag):Int :=
  if 10 < d.tasks.length then 2 else if d.tasks.length < 1∨d.name.length < 1∨16 < d.name.length∨(d.tasks.any fun t => !taskOkS t d.tasks.length)=true then 1 else if (orderF d.tasks).length < d.tasks.length then 160 else 0
theorem rise_range:∀ {l:List Int} {last n:Int},riseS last l n=true→-1≤last→(∀ x∈l,0≤x∧x < n)∧(l.length:Int)≤max (n - 1 - last) 0
  | [],last,n,_,_ => ⟨by simp,by simp; omega⟩
  | x::xs,last,n,h,h0 => by
    simp only [riseS,Bool.and_eq_true,Bool.not_eq_true',decide_eq_false_iff_not] at h
    obtain ⟨h1,h2,h3⟩:=h
    obtain ⟨k1,k2⟩:=rise_range h3 (by omega)
    refine ⟨fun y hy => ?_,by simp; omega⟩
    rcases List.mem_cons.1 hy with rfl | hy
    · omega
    · exact k1 y hy
theorem right_clo (H:Hp) (b:Nat) (t:Task) (n:Int) (hb:b < H.n) (h1:H.m b=some (.arr 1 [.int .i64 n])) (hl:t.needs.length≤4611686018427387904) :
    ACall Tryz.prog 115 [taskV t,.ptr b 0 0] H [b] (.bool (!taskOkS t n)) [] 1:=by
  refine ena115 (by simp) (by simp [lowL,V.low,hb,V.low_closed _ (taskV_closed t)]) (fun id hid => ?_) (by simp) ?_
  · simp at hid; subst hid
    exact ⟨hb,fun o ho => by rw [h1] at ho; simp at ho; subst ho; rfl⟩
  have q1:only [b] H.m b=some (.arr 1 [.int .i64 n]):=by simp [only,h1]
  have hne:b≠H.n:=by omega
  have k:=dag_task t n hl
  unfold taskV at k ⊢
  simp (maxSteps:=1000000) (disch:=omega) only [rg,gD,simprocAttr,c115,q1]
  refine ⟨_,k, ?_⟩
  simp (maxSteps:=1000000) (disch:=omega) only [rg,gD,simprocAttr]
  refine fin_A (l:=[.bool (!taskOkS t n)]) rfl (.inl rfl) (by simp) (fun j => ?_)
  by_cases hj:j=H.n
  · subst hj; left; simp [appd,only]; omega
  · right; simp [appd,upd,hj]
def unI:V→Int
  | .int _ n => n
  | _ => 0
theorem unI_map:∀ l:List Int,(vI l).map unI=l
  | [] => rfl
  | a::l => by show a::(vI l).map unI=_; rw [unI_map l]
theorem con_tasks {st:St} {rows:List Task} {fs cs:List V} {g:Nat} {q:Task→Bool} {H:Hp} {fp:List Nat} {kk:Nat} (hn:rows.length≤1000000) (hl:lowL H.n fs=true) (hl':lowL H.n cs=true) (hfp:FpOk H fp)
    (hg:∀ x∈rows,∀ H':Hp,H.n≤H'.n→(∀ id∈fp,H'.m id=H.m id)→ACall Tryz.prog g (fs++[taskV x]++cs) H' fp (.bool (q x)) [] kk) :
    ACall Tryz.prog 114 [.fsl st 4 (mv taskV rows),.fn g fs cs] H fp (.bool (rows.any q)) [] (rows.length*kk):=by
  let un:V→Task:=fun v => match v with | .agg [.fsl _ _ l,.int _ a,.int _ b,.int _ c] => ⟨l.map unI,a,b,c⟩ | _ => ⟨[],0,0,0⟩
  have hun:∀ t,un (taskV t)=t:=fun t => by
    simp only [un,taskV]
    rw [unI_map]
  have:=con_gen (f:=114) (f2:=172) (sz:=4) (k:=some 4) (st:=st) (rows:=mv taskV rows) (fs:=fs) (cs:=cs) (g:=g) (q:=fun v => q (un v)) (H:=H) (fp:=fp) (kk:=kk)
    ena114 ena172 (by decide) (by decide) (mv_closed taskV_closed) (fun e he => by obtain ⟨a,_,rfl⟩:=mv_mem he; rfl) (by rw [mv_len]; omega) hl hl' hfp
    (fun e he H' h1 h2 => by obtain ⟨a,ha,rfl⟩:=mv_mem he; simp only [hun]; exact hg a ha H' h1 h2)
  rw [mv_len] at this
  have e:(mv taskV rows).any (fun v => q (un v))=rows.any q:=by
    rw [mv,List.any_map]; congr 1; funext t; exact congrArg q (hun t)
  rwa [e] at this
theorem dag_right (d:Dag) (hd:∀ t∈d.tasks,t.needs.length≤4611686018427387904) (hn:d.tasks.length≤4611686018427387904):PCall Tryz.prog 54 [dagV d] (.int .i64 (dagRightS d)):=by
  refine en54 (by simp) (by simp [closedL,V.closed,dagV_closed]) ?_
  simp (maxSteps:=1000000) (disch:=omega) only [rg,gD,simprocAttr,c54,dagV,tasksV]
  by_cases c0:10 < d.tasks.length
  · simp (maxSteps:=1000000) (disch:=omega) only [rg,gD,simprocAttr,show (10:Int) < d.tasks.length by omega]
    (refine fin_x rfl ?_ ?_<;>simp [pack,lo,loL,V.closed,closedL,mv_closed,dagRightS,c0])
  by_cases c1:d.tasks.length < 1
  · simp (maxSteps:=1000000) (disch:=omega) only [rg,gD,simprocAttr,show ¬ (10:Int) < d.tasks.length by omega,show (d.tasks.length:Int) < 1 by omega]
    (refine fin_x rfl ?_ ?_<;>simp [pack,lo,loL,V.closed,closedL,mv_closed,dagRightS,c0,c1])
  by_cases c2:d.name.length < 1
  · simp (maxSteps:=1000000) (disch:=omega) only [rg,gD,simprocAttr,show ¬ (10:Int) < d.tasks.length by omega,show ¬ (d.tasks.length:Int) < 1 by omega,show (d.name.length:Int) < 1 by omega]
    (refine fin_x rfl ?_ ?_<;>simp [pack,lo,loL,V.closed,closedL,mv_closed,dagRightS,c0,c2])
  by_cases c3:16 < d.name.length
  · simp (maxSteps:=1000000) (disch:=omega) only [rg,gD,simprocAttr,show ¬ (10:Int) < d.tasks.length by omega,show ¬ (d.tasks.length:Int) < 1 by omega,show ¬ (d.name.length:Int) < 1 by omega,show (16:Int) < d.name.length by omega]
    (refine fin_x rfl ?_ ?_<;>simp [pack,lo,loL,V.closed,closedL,mv_closed,dagRightS,c0,c3])
  simp (maxSteps:=1000000) (disch:=omega) only [rg,gD,simprocAttr,show ¬ (10:Int) < d.tasks.length by omega,show ¬ (d.tasks.length:Int) < 1 by omega,show ¬ (d.name.length:Int) < 1 by omega,show ¬ (16:Int) < d.name.length by omega]
  refine ⟨_,_,_,_,con_tasks (rows:=d.tasks) (q:=fun t => !taskOkS t d.tasks.length) (fp:=[1]) (kk:=1) (by omega) rfl (by simp [lowL,V.low]) (fun id hid => ?_) (fun t ht H' h1 h2 => ?_), ?_⟩
  · simp at hid; subst hid
    exact ⟨by simp,fun o ho => by simp only [upd_eq] at ho; simp at ho; subst ho; rfl⟩
  · exact right_clo H' 1 t _ (by simp only [] at h1; omega) (by rw [h2 1 (by simp)]; exact (by simp (disch:=omega) only [upd_eq,upd_ne,wo_0,wo_1,wo_2])) (hd t ht)
  cases ha:d.tasks.any fun t => !taskOkS t d.tasks.length with
  | true =>
    simp (maxSteps:=1000000) (disch:=omega) only [rg,gD,simprocAttr]
    (refine fin_x rfl ?_ ?_<;>simp [pack,lo,loL,V.closed,closedL,mv_closed,dagRightS,c0,c1,c2,c3,ha])
  | false =>
    have hall:∀ t∈d.tasks,taskOkS t d.tasks.length=true:=fun t ht => by
      have:=List.any_eq_false.1 ha t ht; simpa using this
    have hrg:∀ t∈d.tasks,(∀ x∈t.needs,0≤x∧x < d.tasks.length)∧(t.needs.length:Int)≤max ((d.tasks.length:Int) - 1 - (-1)) 0:=fun t ht => by
      have:=hall t ht
      simp only [taskOkS,Bool.and_eq_true] at this
      exact rise_range this.1 (by omega)
    simp (maxSteps:=1000000) (disch:=omega) only [rg,gD,simprocAttr]
    refine ⟨_,dag_order .loose d.tasks (by omega) (fun t ht => by have:=(hrg t ht).2; omega) (fun t ht => (hrg t ht).1), ?_⟩
    simp (maxSteps:=1000000) (disch:=omega) only [rg,gD,simprocAttr,vI_len]
    refine ⟨fun h => ?_,fun h => ?_⟩
    · (refine fin_x rfl ?_ ?_<;>simp [pack,lo,loL,V.closed,closedL,mv_closed,dagRightS,c0,c1,c2,c3,ha,show (orderF d.tasks).length < d.tasks.length by omega])
    · (refine fin_x rfl ?_ ?_<;>simp [pack,lo,loL,V.closed,closedL,mv_closed,dagRightS,c0,c1,c2,c3,ha,show ¬ (orderF d.tasks).length < d.tasks.length by omega])
def needsOf (ts:List Task) (k:Nat):List Int:=match ts[k]? with | some t => t.needs | none => []
theorem needsOf_get {ts:List Task} {k:Nat} (h:k < ts.length):needsOf ts k=ts[k].needs:=by simp [needsOf,h]
def markS (l:List Int) (o:List Bool):List Bool:=l.foldl (fun w x => w.set x.toNat true) o
theorem markS_len:∀ (l:List Int) (o:List Bool),(markS l o).length=o.length
  | [],_ => rfl
  | x::l,o => by show (markS l (o.set x.toNat true)).length=_; rw [markS_len l]; simp
def roundS (ts:List Task):Nat→List Bool→List Bool
  | 0,o => o
  | k+1,o => if (roundS ts k o).getD k false=true then markS (needsOf ts k) (roundS ts k o) else roundS ts k o
theorem roundS_len (ts:List Task):∀ (k:Nat) (o:List Bool),(roundS ts k o).length=o.length
  | 0,_ => rfl
  | k+1,o => by
    rw [roundS]; split
    · rw [markS_len,roundS_len ts k]
    · exact roundS_len ts k o
def reachK (ts:List Task) (f:Nat):Nat→List Bool
  | 0 => markS (needsOf ts f) (List.replicate ts.length false)
  | k+1 => roundS ts ts.length (reachK ts f k)
theorem reachK_len (ts:List Task) (f:Nat):∀ k,(reachK ts f k).length=ts.length
  | 0 => by simp [reachK,markS_len]
  | k+1 => by rw [reachK,roundS_len,reachK_len ts f k]
def shapedS (d:Dag):Bool:=!(decide (d.tasks.length < 1∨d.name.length < 1∨16 < d.name.length)) && d.tasks.all fun t => taskOkS t d.tasks.length
def cycK (ts:List Task) (i:Nat):Bool:=(reachK ts i ts.length).getD i false
def cycS (ts:List Task):Bool:=(List.range ts.length).any (cycK ts)
def refRightS (d:Dag):Int :=
  if 10 < d.tasks.length then 2 else if shapedS d=false then 1 else if cycS d.tasks=true then 160 else 0
def ndR (ts:List Task) (b a:Nat):Prop:=(b:Int)∈needsOf ts a
theorem gD_set {o:List Bool} {k j:Nat}:(o.set k true).getD j false=(o.getD j false || (decide (k=j) && decide (j < o.length))):=by
  simp only [List.getD_eq_getElem?_getD,List.getElem?_set]
  by_cases h:k=j
  · subst h
    by_cases h2:k < o.length
    · simp [h2]
    · simp [h2]
  · simp [h]
theorem gD_lt {o:List Bool} {j:Nat} (h:o.getD j false=true):j < o.length:=by
  rcases Nat.lt_or_ge j o.length with h' | h'
  · exact h'
  · simp [List.getD_eq_getElem?_getD,h'] at h
theorem markS_mono:∀ (l:List Int) (o:List Bool) (j:Nat),o.getD j false=true→(markS l o).getD j false=true
  | [],_,_,h => h
  | x::l,o,j,h => markS_mono l (o.set x.toNat true) j (by rw [gD_set,h]; rfl)
theorem markS_get:∀ (l:List Int) (o:List Bool) (j:Nat),j < o.length→(j:Int)∈l→(markS l o).getD j false=true
  | x::l,o,j,hj,h => by
    show (markS l (o.set x.toNat true)).getD j false=true
    rcases List.mem_cons.1 h with h | h
    · subst h
      exact markS_mono l _ j (by rw [gD_set]; simp [hj])
    · exact markS_get l _ j (by simpa using hj) h
theorem markS_only:∀ (l:List Int) (o:List Bool) (j:Nat),(∀ x∈l,0≤x)→(markS l o).getD j false=true→o.getD j false=true∨(j:Int)∈l
  | [],_,_,_,h => .inl h
  | x::l,o,j,h0,h => by
    have hx:=h0 x (by simp)
    rcases markS_only l (o.set x.toNat true) j (fun y hy => h0 y (by simp [hy])) h with h1 | h1
    · rw [gD_set] at h1
      simp only [Bool.or_eq_true,Bool.and_eq_true,decide_eq_true_eq] at h1
      rcases h1 with h1 | ⟨h1,_⟩
      · exact .inl h1
      · right; have:(j:Int)=x:=by omega
        simp [this]
    · exact .inr (by simp [h1])
theorem roundS_mono (ts:List Task):∀ (k:Nat) (o:List Bool) (j:Nat),o.getD j false=true→(roundS ts k o).getD j false=true
  | 0,_,_,h => h
  | k+1,o,j,h => by
    rw [roundS]; split
    · exact markS_mono _ _ _ (roundS_mono ts k o j h)
    · exact roundS_mono ts k o j h
theorem roundS_get (ts:List Task):∀ (m:Nat) (o:List Bool) (k j:Nat),k < m→j < o.length→o.getD k false=true→ndR ts j k→(roundS ts m o).getD j false=true
  | m+1,o,k,j,hk,hj,h,he => by
    rw [roundS]
    rcases Nat.lt_or_ge k m with h1 | h1
    · have:=roundS_get ts m o k j h1 hj h he
      split
      · exact markS_mono _ _ _ this
      · exact this
    · obtain rfl:k=m:=by omega
      rw [if_pos (roundS_mono ts k o k h)]
      exact markS_get _ _ _ (by rw [roundS_len]; exact hj) he
theorem roundS_only (ts:List Task) (h0:∀ k,∀ x∈needsOf ts k,0≤x) (G:Nat→Prop) (hG:∀ b c,G b→ndR ts c b→G c):∀ (m:Nat) (o:List Bool),(∀ j,o.getD j false=true→G j)→∀ j,(roundS ts m o).getD j false=true→G j
  | 0,_,h,j,hj => h j hj
  | m+1,o,h,j,hj => by
    have ih:=roundS_only ts h0 G hG m o h
    rw [roundS] at hj
    split at hj
    · next hm =>
      rcases markS_only _ _ _ (h0 m) hj with h1 | h1
      · exact ih j h1
      · exact hG m j (ih m hm) h1
    · exact ih j hj
theorem reachK_only (ts:List Task) (h0:∀ k,∀ x∈needsOf ts k,0≤x) (i:Nat):∀ (k j:Nat),(reachK ts i k).getD j false=true→Relation.TransGen (ndR ts) j i
  | 0,j,h => by
    rcases markS_only _ _ _ (h0 i) h with h1 | h1
    · exfalso
      have:=gD_lt h1
      simp only [List.length_replicate] at this
      simp [List.getD_eq_getElem?_getD,this] at h1
    · exact .single h1
  | k+1,j,h => roundS_only ts h0 (fun j => Relation.TransGen (ndR ts) j i) (fun b c hb hc => .trans (.single hc) hb) ts.length _ (fun j hj => reachK_only ts h0 i k j hj) j h
inductive Way (ts:List Task):Nat→Nat→Nat→Prop
  | one {a b:Nat}:ndR ts b a→Way ts 0 a b
  | more {k a b c:Nat}:Way ts k a b→ndR ts c b→Way ts (k+1) a c
theorem nd_lt {ts:List Task} (hin:∀ k,∀ x∈needsOf ts k,0≤x∧x < ts.length) {a b:Nat} (h:ndR ts b a):b < ts.length∧a < ts.length:=by
  refine ⟨by have:=hin a b h; omega, ?_⟩
  rcases Nat.lt_or_ge a ts.length with h' | h'
  · exact h'
  · simp [ndR,needsOf,h'] at h
theorem reachK_way {ts:List Task} (hin:∀ k,∀ x∈needsOf ts k,0≤x∧x < ts.length) {i:Nat}:∀ {k j:Nat},Way ts k i j→(reachK ts i k).getD j false=true
  | 0,j,.one h => markS_get _ _ _ (by simpa using (nd_lt hin h).1) h
  | k+1,j,.more hw h => by
    have:=reachK_way hin hw
    exact roundS_get ts _ _ _ _ (nd_lt hin h).2 (by rw [reachK_len]; exact (nd_lt hin h).1) this h
theorem reachK_le {ts:List Task} {i j k:Nat} (h:(reachK ts i k).getD j false=true):∀ m,k≤m→(reachK ts i m).getD j false=true:=by
  intro m hm
  obtain ⟨d,rfl⟩:=Nat.exists_eq_add_of_le hm
  induction d with
  | zero => exact h
  | succ d ih => exact roundS_mono ts _ _ _ (ih (by omega))
theorem pigeon:∀ (n:Nat) (f:Nat→Nat),(∀ k,k≤n→f k < n)→∃ a b,a < b∧b≤n∧f a=f b
  | 0,f,h => absurd (h 0 (Nat.le_refl 0)) (by omega)
  | n+1,f,h => by
    by_cases hc:∃ a,a≤n∧f a=f (n+1)
    · obtain ⟨a,h1,h2⟩:=hc
      exact ⟨a,n+1,by omega,by omega,h2⟩
    · have hc':∀ a,a≤n→f a≠f (n+1):=fun a ha he => hc ⟨a,ha,he⟩
      obtain ⟨a,b,h1,h2,h3⟩:=pigeon n (fun k => if f k=n then f (n+1) else f k) (fun k hk => by
        have:=h k (by omega)
        have:=h (n+1) (by omega)
        have:=hc' k hk
        split<;>omega)
      refine ⟨a,b,h1,by omega, ?_⟩
      have ha:=hc' a (by omega)
      have hb:=hc' b (by omega)
      split at h3<;>split at h3<;>omega
theorem acc_irr {r:Nat→Nat→Prop} {a:Nat} (h:Acc r a):¬ r a a:=by
  induction h with
  | intro a _ ih => exact fun hr => ih a hr hr
theorem orderS_acc {ts:List Task} (hin:∀ k,∀ x∈needsOf ts k,0≤x∧x < ts.length):∀ (k:Nat) (done:List Bool) (out:List Int),done.length=ts.length→ts.length < k+done.count true→out.length=done.count true→(∀ j,done.getD j false=true→Acc (ndR ts) j) →
    ∃ d:List Bool,d.length=ts.length∧freeS ts d ts.length=[]∧d.count true=(orderS ts k done out).length∧∀ j,d.getD j false=true→Acc (ndR ts) j
  | 0,done,out,h1,h2,_,_ => by have:=List.count_le_length (l:=done) (a:=true); omega
  | k+1,done,out,h1,h2,h3,h4 => by
    rw [orderS]
    cases hf:freeS ts done ts.length with
    | nil => exact ⟨done,h1,hf,h3.symm,h4⟩
    | cons x l =>
      obtain ⟨i,hx,hi,hb⟩:=freeS_mem (x:=x) (by rw [hf]; simp)
      subst hx
      simp only [freeB,Bool.and_eq_true,Bool.not_eq_true'] at hb
      have hc:=count_set (show i < done.length by omega) hb.1
      have:=orderS_acc hin k (done.set i true) (out++[(i:Int)]) (by simpa using h1) (by omega) (by simp; omega) (fun j hj => by
        rw [gD_set] at hj
        simp only [Bool.or_eq_true,Bool.and_eq_true,decide_eq_true_eq] at hj
        rcases hj with hj | ⟨rfl,_⟩
        · exact h4 j hj
        · refine Acc.intro _ fun b hbn => ?_
          have hbn':(b:Int)∈ts[i].needs:=by rwa [ndR,needsOf_get hi] at hbn
          have:=List.all_eq_true.1 hb.2 _ hbn'
          exact h4 b (by simpa using this))
      simpa using this
theorem cyc_order {ts:List Task} (hr:inR ts ts.length):cycS ts=decide ((orderF ts).length < ts.length):=by
  have hin:∀ k,∀ x∈needsOf ts k,0≤x∧x < ts.length:=fun k x hx => by
    rcases Nat.lt_or_ge k ts.length with h | h
    · rw [needsOf_get h] at hx; exact hr _ (List.getElem_mem h) x hx
    · simp [needsOf,h] at hx
  obtain ⟨d,h1,h2,h3,h4⟩:=orderS_acc hin (ts.length+1) (List.replicate ts.length false) [] (by simp) (by omega) (by simp [List.count_replicate]) (fun j hj => by
    have:=gD_lt hj; simp only [List.length_replicate] at this
    simp [List.getD_eq_getElem?_getD,this] at hj)
  have h3':d.count true=(orderF ts).length:=h3
  by_cases hlt:(orderF ts).length < ts.length
  · simp only [hlt,decide_true]
    -- one that is not done
    obtain ⟨i0,hi0,hd0⟩:∃ i,i < ts.length∧d.getD i false=false:=by
      apply Classical.byContradiction
      intro hno
      have:d.count true=d.length:=List.count_eq_length.2 (fun b hb => by
        obtain ⟨i,hi,rfl⟩:=List.mem_iff_getElem.1 hb
        cases hc:d[i] with
        | true => rfl
        | false => exact absurd ⟨i,by omega,by simp [List.getD_eq_getElem?_getD,hi,hc]⟩ hno)
      omega
    have hnext:∀ i,∃ j,(i < ts.length∧d.getD i false=false)→(j < ts.length∧d.getD j false=false∧ndR ts j i):=fun i => by
      by_cases hc:i < ts.length∧d.getD i false=false
      · obtain ⟨hi,hdi⟩:=hc
        have hnf:freeB ts[i] d i=false:=by
          cases hfb:freeB ts[i] d i with
          | false => rfl
          | true =>
            have:(i:Int)∈freeS ts d ts.length:=by
              simp only [freeS,List.mem_map,List.mem_filter,List.take_length]
              exact ⟨(ts[i],i),⟨by rw [List.mem_zipIdx_iff_getElem?]; simp [hi],hfb⟩,rfl⟩
            rw [h2] at this; cases this
        rw [freeB,hdi,Bool.not_false,Bool.true_and] at hnf
        obtain ⟨x,hx,hxd⟩:=List.all_eq_false.1 hnf
        have hxr:=hr _ (List.getElem_mem hi) x hx
        refine ⟨x.toNat,fun _ => ⟨by omega,by simpa using hxd, ?_⟩⟩
        rw [ndR,needsOf_get hi,show ((x.toNat:Nat):Int)=x by omega]; exact hx
      · exact ⟨0,fun h => absurd h hc⟩
    let nx:Nat→Nat:=fun i => Classical.choose (hnext i)
    have hnx:∀ i,(i < ts.length∧d.getD i false=false)→(nx i < ts.length∧d.getD (nx i) false=false∧ndR ts (nx i) i):=fun i => Classical.choose_spec (hnext i)
    let f:Nat→Nat:=fun k => Nat.rec i0 (fun _ r => nx r) k
    have hf:∀ k,f k < ts.length∧d.getD (f k) false=false:=fun k => by
      induction k with
      | zero => exact ⟨hi0,hd0⟩
      | succ k ih => exact ⟨(hnx (f k) ih).1,(hnx (f k) ih).2.1⟩
    have hstep:∀ k,ndR ts (f (k+1)) (f k):=fun k => (hnx (f k) (hf k)).2.2
    have hway:∀ m a,Way ts m (f a) (f (a+m+1)):=fun m => by
      induction m with
      | zero => exact fun a => .one (hstep a)
      | succ m ih => exact fun a => .more (ih a) (hstep (a+m+1))
    obtain ⟨a,b,k1,k2,k3⟩:=pigeon ts.length f (fun k _ => (hf k).1)
    have hw:=hway (b - a - 1) a
    rw [show a+(b - a - 1)+1=b by omega,← k3] at hw
    simp only [cycS,List.any_eq_true,List.mem_range]
    exact ⟨f a,(hf a).1,reachK_le (reachK_way hin hw) _ (by omega)⟩
  · simp only [hlt,decide_false]
    have hfull:d.count true=d.length:=by have:=List.count_le_length (l:=d) (a:=true); omega
    have hacc:∀ j,j < ts.length→Acc (ndR ts) j:=fun j hj => h4 j (by
      have:=List.count_eq_length.1 hfull d[j] (List.getElem_mem (by omega))
      simp [List.getD_eq_getElem?_getD,show j < d.length by omega,← this])
    simp only [cycS,List.any_eq_false,List.mem_range]
    intro j hj hc
    exact acc_irr (hacc j hj).transGen (reachK_only ts (fun k x hx => (hin k x hx).1) j _ j hc)
theorem right_same (d:Dag):refRightS d=dagRightS d:=by
  unfold refRightS dagRightS
  by_cases c0:10 < d.tasks.length
  · rw [if_pos c0,if_pos c0]
  rw [if_neg c0,if_neg c0]
  have e:shapedS d=false↔(d.tasks.length < 1∨d.name.length < 1∨16 < d.name.length∨(d.tasks.any fun t => !taskOkS t d.tasks.length)=true):=by
    have hall:(d.tasks.any fun t => !taskOkS t d.tasks.length)=!(d.tasks.all fun t => taskOkS t d.tasks.length):=by rw [List.not_all_eq_any_not]
    rw [hall,shapedS]
    cases (d.tasks.all fun t => taskOkS t d.tasks.length)
    · simp only [Bool.and_false,Bool.not_false,or_true]
    · simp only [Bool.and_true,Bool.not_true,Bool.not_eq_false',decide_eq_true_eq,Bool.false_eq_true,or_false]
  by_cases c1:shapedS d=false
  · rw [if_pos c1,if_pos (e.1 c1)]
  · rw [if_neg c1,if_neg (fun h => c1 (e.2 h))]
    have hin:inR d.tasks d.tasks.length:=fun t ht => by
      have:taskOkS t d.tasks.length=true:=by
        cases hk:taskOkS t d.tasks.length with
        | true => rfl
        | false => exact absurd (e.2 (.inr (.inr (.inr (List.any_eq_true.2 ⟨t,ht,by rw [hk]; rfl⟩))))) c1
      simp only [taskOkS,Bool.and_eq_true] at this
      exact (rise_range this.1 (by omega)).1
    rw [cyc_order hin]
    simp only [decide_eq_true_eq]
theorem untilS_snoc (l:List Int) (p:Int):untilS (l++[p])=min (untilS l+clampS p) MT:=by simp [untilS,List.foldl_append]
theorem untilS_take {l:List Int} {i:Nat} (h:i < l.length):untilS (l.take (i+1))=min (untilS (l.take i)+clampS l[i]) MT:=by rw [List.take_succ_eq_append_getElem h,untilS_snoc]
theorem wait_until0 (now:Int) (st:St):PCall Tryz.prog 236 [.int .i64 now,.fsl st 1 []] (.int .i64 (untilS [now])):=by
  refine en236 (by simp) (by simp [closedL,V.closed]) ?_
  simp (maxSteps:=1000000) (disch:=omega) only [rg,gD,simprocAttr,c236,appO]
  refine x_frz0 ?_
  simp (maxSteps:=1000000) (disch:=omega) only [rg,gD,simprocAttr]
  refine x_itp 1 (fun _ => True) (fun i => [(5,.int .i64 (untilS ([now].take i))),(11,.fsl .full 1 (vI [now])),(12,.int .i64 (([now].length:Nat):Int)),(13,.int .i64 (i:Int))]) trivial (by simp [untilS,vI,mv]) ?_
  rintro T i hi _ hN hX hR
  have hr:=untilS_range ([now].take i)
  simp only [MT] at hr
  simp (maxSteps:=1000000) (disch:=omega) only [rg,gD,simprocAttr]
  refine ⟨fun h => ?_,fun h => ?_⟩
  · have i1:i < [now].length:=by simp at h ⊢; omega
    simp (maxSteps:=1000000) (disch:=omega) only [rg,gD,simprocAttr,vI_get i1,vI_len]
    refine hN _ (by simpa using i1) trivial ?_
    rw [untilS_take i1]; rfl
  · obtain rfl:i=1:=by simp at h; omega
    refine hX _ _ _ ?_
    simp (maxSteps:=1000000) (disch:=omega) only [rg,gD,simprocAttr]
    refine x_frz0 ?_
    simp (maxSteps:=1000000) (disch:=omega) only [rg,gD,simprocAttr]
    (refine fin_x rfl ?_ ?_<;>simp [pack,lo,loL,V.closed,closedL,mv_closed,show [now].take 1=[now] from rfl])
theorem wait_until1 (now p:Int) (st:St):PCall Tryz.prog 236 [.int .i64 now,.fsl st 1 [.int .i64 p]] (.int .i64 (untilS [now,p])):=by
  refine en236 (by simp) (by simp [closedL,V.closed]) ?_
  simp (maxSteps:=1000000) (disch:=omega) only [rg,gD,simprocAttr,c236,appO]
  refine x_frz [0] ?_
  simp only [vr,frz_p]
  rw [frz_row (id:=0) (len:=2) (sz:=1) (l:=[V.int .i64 now,.int .i64 p]) (by simp [upd]) (by simp) rfl (by simp [closedL,V.closed])]
  simp (maxSteps:=1000000) (disch:=omega) only [rg,gD,simprocAttr]
  refine x_itp 2 (fun _ => True) (fun i => [(5,.int .i64 (untilS ([now,p].take i))),(11,.fsl .loose 1 (vI [now,p])),(12,.int .i64 (([now,p].length:Nat):Int)),(13,.int .i64 (i:Int))]) trivial (by simp [untilS,vI,mv]) ?_
  rintro T i hi _ hN hX hR
  have hr:=untilS_range ([now,p].take i)
  simp only [MT] at hr
  simp (maxSteps:=1000000) (disch:=omega) only [rg,gD,simprocAttr]
  refine ⟨fun h => ?_,fun h => ?_⟩
  · have i1:i < [now,p].length:=by simp at h ⊢; omega
    simp (maxSteps:=1000000) (disch:=omega) only [rg,gD,simprocAttr,vI_get i1,vI_len]
    refine hN _ (by simpa using i1) trivial ?_
    rw [untilS_take i1]; rfl
  · obtain rfl:i=2:=by simp at h; omega
    refine hX _ _ _ ?_
    simp (maxSteps:=1000000) (disch:=omega) only [rg,gD,simprocAttr]
    refine x_frz0 ?_
    simp (maxSteps:=1000000) (disch:=omega) only [rg,gD,simprocAttr]
    (refine fin_x rfl ?_ ?_<;>simp [pack,lo,loL,V.closed,closedL,mv_closed,show [now,p].take 2=[now,p] from rfl])
theorem pow_s (w:Int) (i:Nat):w*2 ^ (i+1)=2*(w*2 ^ i):=by rw [Int.pow_succ]; rw [← Int.mul_assoc,Int.mul_comm]
theorem pow_ge {w:Int} (h:1≤w) (i:Nat):(i:Int) < w*2 ^ i:=by
  induction i with
  | zero => simp; omega
  | succ i ih => rw [pow_s]; omega
theorem pow_le {w:Int} (h:1≤w) {i j:Nat} (hij:i≤j):w*2 ^ i≤w*2 ^ j:=by
  induction j with
  | zero => obtain rfl : i = 0 := by omega
            exact Int.le_refl _
  | succ j ih =>
    by_cases e:i=j+1
    · subst e; exact Int.le_refl _
    · have:=ih (by omega)
      have:=pow_ge h j
      rw [pow_s]; omega
theorem afterS_0 {w t:Int} (h:w < 1∨t < 1):afterS w t=0:=by simp [afterS,h]
theorem afterS_1 {w t:Int} (h:¬ (w < 1∨t < 1)):afterS w t=min (w*2 ^ (t - 1).toNat) MW:=by simp only [afterS,if_neg h]
theorem wait_after (w t:Int) (ht:t≤1000000):PCall Tryz.prog 237 [.int .i64 w,.int .i64 t] (.int .i64 (afterS w t)):=by
  refine en237 (by simp) (by simp [closedL,V.closed]) ?_
  by_cases c1:w < 1
  · simp (maxSteps:=1000000) (disch:=omega) only [rg,gD,simprocAttr,c237,c1]
    (refine fin_x rfl ?_ ?_<;>simp [pack,lo,loL,V.closed,closedL,mv_closed,afterS_0 (.inl c1)])
  by_cases c2:t < 1
  · simp (maxSteps:=1000000) (disch:=omega) only [rg,gD,simprocAttr,c237,c1,c2]
    (refine fin_x rfl ?_ ?_<;>simp [pack,lo,loL,V.closed,closedL,mv_closed,afterS_0 (.inr c2)])
  have e:=afterS_1 (w:=w) (t:=t) (by omega)
  simp (maxSteps:=1000000) (disch:=omega) only [rg,gD,simprocAttr,c237,c1,c2]
  obtain ⟨n,rfl⟩:∃ n:Nat,t=(n:Int)+1:=⟨(t - 1).toNat,by omega⟩
  rw [show ((n:Int)+1 - 1).toNat=n by omega] at e
  obtain ⟨m,hm⟩:∃ m,min w 1048576=m:=⟨_,rfl⟩
  rw [hm]
  have m1:1≤m:=by omega
  have hmw:∀ k:Nat,m*2 ^ k≤w*2 ^ k:=fun k => Int.mul_le_mul_of_nonneg_right (by omega) (Int.pow_nonneg (by omega))
  have fin:∀ i,i≤n→(i < n→1048576≤m*2 ^ i)→min (m*2 ^ i) 1048576=afterS w ((n:Int)+1):=by
    intro i hi hlt
    rw [e]; simp only [MW]
    have a1:=hmw n
    by_cases hin:i=n
    · subst hin
      by_cases hw:w≤1048576
      · rw [show m=w by omega]
      · have:=pow_le m1 (Nat.zero_le i)
        rw [Int.pow_zero,Int.mul_one] at this
        omega
    · have a2:=hlt (by omega)
      have a3:=pow_le m1 hi
      omega
  refine x_itp 1048577 (fun i => i≤n∧∀ j,j < i→m*2 ^ j < 1048576) (fun i => [(0,.int .i64 (m*2 ^ i)),(1,.int .i64 ((n:Int)+1 - i))]) ⟨Nat.zero_le _,by omega⟩ (by simp) ?_
  rintro T i hi ⟨hin,hp⟩ hN hX hR
  have b1:=pow_ge m1 i
  have b2:m*2 ^ i < 2097153:=by
    cases i with
    | zero => rw [Int.pow_zero,Int.mul_one]; omega
    | succ j => have:=hp j (by omega); rw [pow_s]; omega
  have stop:(i < n→1048576≤m*2 ^ i)→T (.exit 0) [(0,.int .i64 (m*2 ^ i)),(1,.int .i64 ((n:Int)+1 - i)),(18,.bool false)] ⟨0,fun _ => none⟩:=fun hlt => by
    refine hX _ _ _ ?_
    simp (maxSteps:=1000000) (disch:=omega) only [rg,gD,simprocAttr]
    refine x_frz0 ?_
    simp (maxSteps:=1000000) (disch:=omega) only [rg,gD,simprocAttr]
    (refine fin_x rfl ?_ ?_<;>simp [pack,lo,loL,V.closed,closedL,mv_closed,fin i hin hlt])
  by_cases d1:1 < (n:Int)+1 - i
  · by_cases d2:m*2 ^ i < 1048576
    · simp (maxSteps:=1000000) (disch:=omega) only [rg,gD,simprocAttr,d1,d2]
      refine hN _ (by omega) ⟨by omega,fun j hj => ?_⟩ ?_
      · by_cases hji:j=i
        · subst hji; exact d2
        · exact hp j (by omega)
      · rw [pow_s,Int.mul_comm]
        simp; omega
    · simp (maxSteps:=1000000) (disch:=omega) only [rg,gD,simprocAttr,d1,d2]
      exact stop fun _ => by omega
  · simp (maxSteps:=1000000) (disch:=omega) only [rg,gD,simprocAttr,d1]
    exact stop fun h => by omega
theorem task_ready (s:Stt):PCall Tryz.prog 233 [sttV s] (sttV (treadyS s)):=by
  refine en233 (by simp) (by simp [closedL,V.closed,sttV_closed]) ?_
  by_cases c:s.is=0
  · simp (maxSteps:=1000000) (disch:=omega) only [rg,gD,simprocAttr,c233,sttV,c]
    (refine fin_x rfl ?_ ?_<;>simp [pack,lo,loL,V.closed,closedL,mv_closed,treadyS,c,sttV])
  · simp (maxSteps:=1000000) (disch:=omega) only [rg,gD,simprocAttr,c233,sttV,c]
    (refine fin_x rfl ?_ ?_<;>simp [pack,lo,loL,V.closed,closedL,mv_closed,treadyS,c,sttV])
theorem task_cancel (s:Stt):PCall Tryz.prog 217 [sttV s] (sttV (tcancelS s)):=by
  refine en217 (by simp) (by simp [closedL,V.closed,sttV_closed]) ?_
  by_cases c0:s.is=0
  · simp (maxSteps:=1000000) (disch:=omega) only [rg,gD,simprocAttr,c217,sttV,c0]
    (refine fin_x rfl ?_ ?_<;>simp [pack,lo,loL,V.closed,closedL,mv_closed,tcancelS,c0,sttV])
  by_cases c1:s.is=1
  · simp (maxSteps:=1000000) (disch:=omega) only [rg,gD,simprocAttr,c217,sttV,c0,c1]
    (refine fin_x rfl ?_ ?_<;>simp [pack,lo,loL,V.closed,closedL,mv_closed,tcancelS,c1,sttV])
  by_cases c2:s.is=2
  · simp (maxSteps:=1000000) (disch:=omega) only [rg,gD,simprocAttr,c217,sttV,c0,c1,c2]
    (refine fin_x rfl ?_ ?_<;>simp [pack,lo,loL,V.closed,closedL,mv_closed,tcancelS,c2,sttV])
  · simp (maxSteps:=1000000) (disch:=omega) only [rg,gD,simprocAttr,c217,sttV,c0,c1,c2]
    (refine fin_x rfl ?_ ?_<;>simp [pack,lo,loL,V.closed,closedL,mv_closed,tcancelS,c0,c1,c2,sttV])
theorem task_done (t:Task) (s:Stt) (r:Str):PCall Tryz.prog 214 [taskV t,sttV s,.str r] (seV (tdoneS s r)):=by
  refine en214 (by simp) (by simp [closedL,V.closed,sttV_closed,taskV_closed]) ?_
  by_cases c:s.is=2
  · by_cases d:(16:Int) < r.length
    · simp (maxSteps:=1000000) (disch:=omega) only [rg,gD,simprocAttr,c214,sttV,taskV,c,d]
      (refine fin_x rfl ?_ ?_<;>simp [pack,lo,loL,V.closed,closedL,mv_closed,tdoneS,c,sttV,seV,zS,show 16 < r.length by omega])
    · simp (maxSteps:=1000000) (disch:=omega) only [rg,gD,simprocAttr,c214,sttV,taskV,c,d]
      (refine fin_x rfl ?_ ?_<;>simp [pack,lo,loL,V.closed,closedL,mv_closed,tdoneS,c,sttV,seV,show ¬ 16 < r.length by omega])
  · simp (maxSteps:=1000000) (disch:=omega) only [rg,gD,simprocAttr,c214,sttV,taskV,c]
    (refine fin_x rfl ?_ ?_<;>simp [pack,lo,loL,V.closed,closedL,mv_closed,tdoneS,c,sttV,seV,zS])
theorem task_beat (t:Task) (s:Stt) (now:Int):PCall Tryz.prog 212 [taskV t,sttV s,.int .i64 now] (seV (tbeatS t s now)):=by
  refine en212 (by simp) (by simp [closedL,V.closed,sttV_closed,taskV_closed]) ?_
  by_cases c:s.is=2
  · simp (maxSteps:=1000000) (disch:=omega) only [rg,gD,simprocAttr,c212,sttV,taskV,c]
    refine ⟨_,wait_until1 now t.lease _, ?_⟩
    simp (maxSteps:=1000000) (disch:=omega) only [rg,gD,simprocAttr]
    (refine fin_x rfl ?_ ?_<;>simp [pack,lo,loL,V.closed,closedL,mv_closed,tbeatS,c,sttV,seV])
  · simp (maxSteps:=1000000) (disch:=omega) only [rg,gD,simprocAttr,c212,sttV,taskV,c]
    (refine fin_x rfl ?_ ?_<;>simp [pack,lo,loL,V.closed,closedL,mv_closed,tbeatS,c,sttV,seV,zS])
theorem task_fail (t:Task) (s:Stt) (now:Int) (h:s.tried≤1000000):PCall Tryz.prog 216 [taskV t,sttV s,.int .i64 now] (seV (tfailS t s now)):=by
  refine en216 (by simp) (by simp [closedL,V.closed,sttV_closed,taskV_closed]) ?_
  by_cases c:s.is=2
  · by_cases d:t.tries≤s.tried
    · simp (maxSteps:=1000000) (disch:=omega) only [rg,gD,simprocAttr,c216,sttV,taskV,c,d,ge_iff_le]
      (refine fin_x rfl ?_ ?_<;>simp [pack,lo,loL,V.closed,closedL,mv_closed,tfailS,c,d,sttV,seV])
    · simp (maxSteps:=1000000) (disch:=omega) only [rg,gD,simprocAttr,c216,sttV,taskV,c,d,ge_iff_le]
      refine ⟨_,wait_after t.wait s.tried h, ?_⟩
      simp (maxSteps:=1000000) (disch:=omega) only [rg,gD,simprocAttr]
      refine ⟨_,wait_until1 now _ _, ?_⟩
      simp (maxSteps:=1000000) (disch:=omega) only [rg,gD,simprocAttr]
      (refine fin_x rfl ?_ ?_<;>simp [pack,lo,loL,V.closed,closedL,mv_closed,tfailS,c,d,sttV,seV])
  · simp (maxSteps:=1000000) (disch:=omega) only [rg,gD,simprocAttr,c216,sttV,taskV,c]
    (refine fin_x rfl ?_ ?_<;>simp [pack,lo,loL,V.closed,closedL,mv_closed,tfailS,c,sttV,seV,zS])
theorem task_expire (t:Task) (s:Stt) (now:Int) (h:s.tried≤1000000):PCall Tryz.prog 219 [taskV t,sttV s,.int .i64 now] (sttV (texpireS t s now)):=by
  refine en219 (by simp) (by simp [closedL,V.closed,sttV_closed,taskV_closed]) ?_
  have hf:=task_fail t s s.due h
  have hw:=wait_until0 now .nil
  unfold taskV sttV seV at hf
  by_cases c:s.is=2
  · by_cases d:untilS [now] < s.due
    · simp (maxSteps:=1000000) (disch:=omega) only [rg,gD,simprocAttr,c219,sttV,taskV,c]
      refine ⟨_,hw, ?_⟩
      simp (maxSteps:=1000000) (disch:=omega) only [rg,gD,simprocAttr,d]
      (refine fin_x rfl ?_ ?_<;>simp [pack,lo,loL,V.closed,closedL,mv_closed,texpireS,c,d,sttV])
    · simp (maxSteps:=1000000) (disch:=omega) only [rg,gD,simprocAttr,c219,sttV,taskV,c]
      refine ⟨_,hw, ?_⟩
      simp (maxSteps:=1000000) (disch:=omega) only [rg,gD,simprocAttr,d]
      rw [c] at hf
      refine ⟨_,hf, ?_⟩
      simp (maxSteps:=1000000) (disch:=omega) only [rg,gD,simprocAttr,sttV]
      (refine fin_x rfl ?_ ?_<;>simp [pack,lo,loL,V.closed,closedL,mv_closed,texpireS,c,d,sttV])
  · simp (maxSteps:=1000000) (disch:=omega) only [rg,gD,simprocAttr,c219,sttV,taskV,c]
    (refine fin_x rfl ?_ ?_<;>simp [pack,lo,loL,V.closed,closedL,mv_closed,texpireS,c,sttV])
theorem task_lease (t:Task) (s:Stt) (now token:Int) (h:-1000000≤s.tried∧s.tried≤1000000):PCall Tryz.prog 205 [taskV t,sttV s,.int .i64 now,.int .i64 token] (seV (tleaseS t s now token)):=by
  refine en205 (by simp) (by simp [closedL,V.closed,sttV_closed,taskV_closed]) ?_
  have hw:=wait_until0 now .nil
  by_cases c1:token < 1
  · simp (maxSteps:=1000000) (disch:=omega) only [rg,gD,simprocAttr,c205,sttV,taskV,c1]
    (refine fin_x rfl ?_ ?_<;>simp [pack,lo,loL,V.closed,closedL,mv_closed,tleaseS,c1,sttV,seV,zS])
  by_cases c2:1099511627776 < token
  · simp (maxSteps:=1000000) (disch:=omega) only [rg,gD,simprocAttr,c205,sttV,taskV,c1,c2]
    (refine fin_x rfl ?_ ?_<;>simp [pack,lo,loL,V.closed,closedL,mv_closed,tleaseS,c1,c2,MT,sttV,seV,zS])
  by_cases c:s.is=1
  · by_cases d:untilS [now] < s.due
    · simp (maxSteps:=1000000) (disch:=omega) only [rg,gD,simprocAttr,c205,sttV,taskV,c1,c2,c]
      refine ⟨_,hw, ?_⟩
      simp (maxSteps:=1000000) (disch:=omega) only [rg,gD,simprocAttr,d]
      (refine fin_x rfl ?_ ?_<;>simp [pack,lo,loL,V.closed,closedL,mv_closed,tleaseS,c1,c2,c,d,MT,sttV,seV,zS])
    · simp (maxSteps:=1000000) (disch:=omega) only [rg,gD,simprocAttr,c205,sttV,taskV,c1,c2,c]
      refine ⟨_,hw, ?_⟩
      simp (maxSteps:=1000000) (disch:=omega) only [rg,gD,simprocAttr,d]
      refine ⟨_,wait_until1 now t.lease _, ?_⟩
      simp (maxSteps:=1000000) (disch:=omega) only [rg,gD,simprocAttr]
      (refine fin_x rfl ?_ ?_<;>simp [pack,lo,loL,V.closed,closedL,mv_closed,tleaseS,c1,c2,c,d,MT,sttV,seV,zS])
  · simp (maxSteps:=1000000) (disch:=omega) only [rg,gD,simprocAttr,c205,sttV,taskV,c1,c2,c]
    (refine fin_x rfl ?_ ?_<;>simp [pack,lo,loL,V.closed,closedL,mv_closed,tleaseS,c1,c2,c,MT,sttV,seV,zS])
theorem standsS_iff (s:Stt):standsS s=true↔(0≤s.is∧s.is≤5∧0≤s.tried∧s.tried≤8∧0≤s.due∧s.due≤1099511627776)∧(0≤s.token∧s.token≤1099511627776∧(0 < s.token↔s.is=2)∧s.result.length≤16∧(s.result=[]∨s.is=3)):=by
  simp only [standsS,stNumS,Bool.and_eq_true,decide_eq_true_eq]
theorem trightS_no {t:Task} {s:Stt} (h:¬ TRightP t s):trightS t s=false:=by simp [trightS,h]
theorem trightS_yes {t:Task} {s:Stt} (hs:standsS s=true) (h:TRightP t s):trightS t s=true:=by simp [trightS,h,hs]
theorem task_right (t:Task) (s:Stt) (hs:s.result.length≤4611686018427387904):PCall Tryz.prog 126 [taskV t,sttV s] (.bool (trightS t s)):=by
  refine en126 (by simp) (by simp [closedL,V.closed,sttV_closed,taskV_closed]) ?_
  have h0:=task_stands s hs
  by_cases c:standsS s=true
  · rw [c] at h0
    have k:=(standsS_iff s).1 c
    unfold sttV at h0
    by_cases d:t.tries < s.tried
    · simp (maxSteps:=1000000) (disch:=omega) only [rg,gD,simprocAttr,c126,sttV,taskV]
      refine ⟨_,h0, ?_⟩
      simp (maxSteps:=1000000) (disch:=omega) only [rg,gD,simprocAttr,d]
      (refine fin_x rfl ?_ ?_<;>simp [pack,lo,loL,V.closed,closedL,mv_closed,trightS_no (t:=t) (s:=s) (fun h => by have:=h.1; omega)])
    by_cases c0:s.is=0
    · have r0:s.result=[]:=by rcases k.2.2.2.2.2 with h | h; exact h; omega
      have t0:s.token=0:=by have:=k.2.2.2.1; omega
      have hq:eqF [0,0,0,0,1] [V.int .i64 0,V.int .i64 s.tried,V.int .i64 s.due,V.int .i64 s.token,V.str s.result] [V.int .i64 0,V.int .i64 0,V.int .i64 0,V.int .i64 0,V.str []]=some (decide (s.tried=0∧s.due=0)):=by
        simp [eqF,r0,t0]
      simp (maxSteps:=1000000) (disch:=omega) only [rg,gD,simprocAttr,c126,sttV,taskV]
      refine ⟨_,h0, ?_⟩
      simp (maxSteps:=1000000) (disch:=omega) only [rg,gD,simprocAttr,d,c0,hq]
      (refine fin_x rfl ?_ ?_<;>simp [pack,lo,loL,V.closed,closedL,mv_closed,show trightS t s=decide (s.tried=0∧s.due=0) by simp [trightS,c,TRightP,c0]; omega])
    by_cases c1:s.is=1
    · simp (maxSteps:=1000000) (disch:=omega) only [rg,gD,simprocAttr,c126,sttV,taskV]
      refine ⟨_,h0, ?_⟩
      simp (maxSteps:=1000000) (disch:=omega) only [rg,gD,simprocAttr,d,c0,c1]
      (refine fin_x rfl ?_ ?_<;>simp [pack,lo,loL,V.closed,closedL,mv_closed,show trightS t s=decide (s.tried < t.tries) by simp [trightS,c,TRightP,c1]; omega])
    by_cases c2:s.is=2
    · simp (maxSteps:=1000000) (disch:=omega) only [rg,gD,simprocAttr,c126,sttV,taskV]
      refine ⟨_,h0, ?_⟩
      simp (maxSteps:=1000000) (disch:=omega) only [rg,gD,simprocAttr,d,c0,c1,c2,ge_iff_le]
      (refine fin_x rfl ?_ ?_<;>simp [pack,lo,loL,V.closed,closedL,mv_closed,show trightS t s=decide (1≤s.tried) by simp [trightS,c,TRightP,c2]; omega])
    by_cases c4:s.is=4
    · by_cases e:s.tried=t.tries
      · simp (maxSteps:=1000000) (disch:=omega) only [rg,gD,simprocAttr,c126,sttV,taskV]
        refine ⟨_,h0, ?_⟩
        simp (maxSteps:=1000000) (disch:=omega) only [rg,gD,simprocAttr,d,c0,c1,c2,c4,e,Int.lt_irrefl,ge_iff_le]
        (refine fin_x rfl ?_ ?_<;>simp [pack,lo,loL,V.closed,closedL,mv_closed,show trightS t s=decide (s.due=0) by simp [trightS,c,TRightP,c4,e]])
      · simp (maxSteps:=1000000) (disch:=omega) only [rg,gD,simprocAttr,c126,sttV,taskV]
        refine ⟨_,h0, ?_⟩
        simp (maxSteps:=1000000) (disch:=omega) only [rg,gD,simprocAttr,d,c0,c1,c2,c4,e,ge_iff_le]
        (refine fin_x rfl ?_ ?_<;>simp [pack,lo,loL,V.closed,closedL,mv_closed,show trightS t s=false by simp [trightS,c,TRightP,c4,e]])
    by_cases c5:s.is=5
    · simp (maxSteps:=1000000) (disch:=omega) only [rg,gD,simprocAttr,c126,sttV,taskV]
      refine ⟨_,h0, ?_⟩
      simp (maxSteps:=1000000) (disch:=omega) only [rg,gD,simprocAttr,d,c0,c1,c2,c4,c5,ge_iff_le]
      (refine fin_x rfl ?_ ?_<;>simp [pack,lo,loL,V.closed,closedL,mv_closed,show trightS t s=decide (s.due=0) by simp [trightS,c,TRightP,c5]; omega])
    have c3:s.is=3:=by omega
    by_cases e:1≤s.tried
    · simp (maxSteps:=1000000) (disch:=omega) only [rg,gD,simprocAttr,c126,sttV,taskV]
      refine ⟨_,h0, ?_⟩
      simp (maxSteps:=1000000) (disch:=omega) only [rg,gD,simprocAttr,d,c0,c1,c2,c4,c5,e,ge_iff_le]
      (refine fin_x rfl ?_ ?_<;>simp [pack,lo,loL,V.closed,closedL,mv_closed,show trightS t s=decide (s.due=0) by simp [trightS,c,TRightP,c3,e]; omega])
    · simp (maxSteps:=1000000) (disch:=omega) only [rg,gD,simprocAttr,c126,sttV,taskV]
      refine ⟨_,h0, ?_⟩
      simp (maxSteps:=1000000) (disch:=omega) only [rg,gD,simprocAttr,d,c0,c1,c2,c4,c5,e,ge_iff_le]
      (refine fin_x rfl ?_ ?_<;>simp [pack,lo,loL,V.closed,closedL,mv_closed,show trightS t s=false by simp [trightS,c,TRightP,c3]; omega])
  · rw [show standsS s=false by simpa using c] at h0
    unfold sttV at h0
    simp (maxSteps:=1000000) (disch:=omega) only [rg,gD,simprocAttr,c126,sttV,taskV]
    refine ⟨_,h0, ?_⟩
    simp (maxSteps:=1000000) (disch:=omega) only [rg,gD,simprocAttr]
    (refine fin_x rfl ?_ ?_<;>simp [pack,lo,loL,V.closed,closedL,mv_closed,show trightS t s=false by simp [trightS,c]])
def idxS (x:Int):Nat→List Int→Int
  | _,[] => -1
  | i,y::l => if x=y then (i:Int) else idxS x (i+1) l
theorem idxS_mem (x:Int):∀ (l:List Int) (i:Nat),0≤idxS x i l↔x∈l
  | [],i => by simp [idxS]
  | y::l,i => by
    simp only [idxS,List.mem_cons]
    split
    · rename_i h; simp [h]
    · rename_i h; rw [idxS_mem x l (i+1)]; simp [h]
theorem sl_index (l:List Int) (st:St) (x:Int) (hl:l.length≤1000000):PCall Tryz.prog 224 [.fsl st 1 (vI l),.int .i64 x] (.int .i64 (idxS x 0 l)):=by
  refine en224 (by simp) (by simp [closedL,V.closed,vI_closed]) ?_
  simp (maxSteps:=1000000) (disch:=omega) only [rg,gD,simprocAttr,c224,vI_len]
  refine x_itp l.length (fun i => idxS x 0 l=idxS x i (l.drop i)) (fun i => [(0,.fsl st 1 (vI l)),(1,.int .i64 x),(7,.int .i64 (l.length:Int)),(8,.int .i64 (i:Int))]) rfl rfl ?_
  rintro T i hi hp hN hX hR
  by_cases i1:i < l.length
  · rw [List.drop_eq_getElem_cons i1] at hp
    simp only [idxS] at hp
    by_cases e:x=l[i]
    · rw [if_pos e] at hp
      simp (maxSteps:=1000000) (disch:=omega) only [rg,gD,simprocAttr,show (i:Int) < l.length by omega,vI_get i1,decide_eq_true e]
      refine hR _ _ ?_
      (refine fin_x rfl ?_ ?_<;>simp [pack,lo,loL,V.closed,closedL,mv_closed,hp])
    · rw [if_neg e] at hp
      simp (maxSteps:=1000000) (disch:=omega) only [rg,gD,simprocAttr,show (i:Int) < l.length by omega,vI_get i1,decide_eq_false e]
      exact hN _ i1 hp rfl
  · obtain rfl:i=l.length:=by omega
    simp (maxSteps:=1000000) (disch:=omega) only [rg,gD,simprocAttr,Int.lt_irrefl]
    refine hX _ _ _ ?_
    simp (maxSteps:=1000000) (disch:=omega) only [rg,gD,simprocAttr]
    refine x_frz0 ?_
    simp (maxSteps:=1000000) (disch:=omega) only [rg,gD,simprocAttr]
    rw [List.drop_length] at hp
    (refine fin_x rfl ?_ ?_<;>simp [pack,lo,loL,V.closed,closedL,mv_closed,hp,idxS])
theorem sl_contains (l:List Int) (st:St) (x:Int) (hl:l.length≤1000000):PCall Tryz.prog 177 [.fsl st 1 (vI l),.int .i64 x] (.bool (decide (x∈l))):=by
  have h1:=sl_index l st x hl
  have h2:=idxS_mem x l 0
  refine en177 (by simp) (by simp [closedL,V.closed,vI_closed]) ?_
  simp (maxSteps:=1000000) (disch:=omega) only [rg,gD,simprocAttr,c177]
  refine ⟨_,h1, ?_⟩
  simp (maxSteps:=1000000) (disch:=omega) only [rg,gD,simprocAttr,ge_iff_le]
  (refine fin_x rfl ?_ ?_<;>simp [pack,lo,loL,V.closed,closedL,mv_closed,h2])
theorem run_each (r:Rn):PCall Tryz.prog 125 [rnV r] (.fn 174 [] [.fptr (rnV r) 0]):=by
  refine en125 (by simp) (by simp [closedL,rnV_closed]) ?_
  simp (maxSteps:=1000000) (disch:=omega) only [rg,gD,simprocAttr,c125]
  refine ⟨⟨rfl,rfl⟩, ?_⟩
  refine ⟨.inr rfl,_,rfl,.fn 174 [] [.fptr (rnV r) 0], ?_,.inl rfl⟩
  simp [pack,snapF,snap,snapC,mapO,V.closed,closedL,rnV_closed,upd]
def cntS (ks:List Int):List Stt→Nat
  | [] => 0
  | s::l => (if s.is∈ks then 1 else 0)+cntS ks l
theorem cntS_app (ks:List Int):∀ (l l':List Stt),cntS ks (l++l')=cntS ks l+cntS ks l'
  | [],l' => by simp [cntS]
  | s::l,l' => by simp only [List.cons_append,cntS,cntS_app ks l l']; omega
theorem cntS_le (ks:List Int):∀ (l:List Stt),cntS ks l≤l.length
  | [] => Nat.le_refl _
  | s::l => by have:=cntS_le ks l; simp only [cntS,List.length_cons]; split<;>omega
theorem run_count (r:Rn) (ks:List Int) (st:St) (hk0:ks.length≤1000000) (hr:r.states.length≤1000000):PCall Tryz.prog 128 [rnV r,.fsl st 1 (vI ks)] (.int .i64 (cntS ks r.states:Nat)):=by
  refine en128 (by simp) (by simp [closedL,V.closed,vI_closed,rnV_closed]) ?_
  have he:=run_each r
  have hsq:=seq_each r (by omega)
  unfold rnV sttsV at he
  simp (maxSteps:=1000000) (disch:=omega) only [rg,gD,simprocAttr,c128,rnV,sttsV]
  refine ⟨_,he, ?_⟩
  simp (maxSteps:=1000000) (disch:=omega) only [rg,gD,simprocAttr]
  refine x_rf (elsOf 0 (mv sttV r.states)) (fun k H => 3≤H.n∧H.m 1=some (.arr 1 [V.fsl st 1 (vI ks)])∧H.m 2=some (.arr 1 [V.int .i64 ((cntS ks (r.states.take k):Nat):Int)])) rfl (by simp [closedL,V.closed,tasksV_closed,mv_closed,sttV_closed]) hsq elsOf_two ⟨Nat.le_refl 3,by simp [upd],by simp [upd,cntS]⟩ ?_ ?_
  · rintro T k el ⟨n,m⟩ ⟨hn,e1,e2⟩ hel hN hX hR
    simp only at hn e1 e2
    rw [elsOf_at,Nat.zero_add] at hel
    have hk:k < r.states.length:=by
      rcases Nat.lt_or_ge k r.states.length with h | h
      · exact h
      · rw [List.getElem?_eq_none (by rw [mv_len]; exact h)] at hel; cases hel
    rw [mv_get hk] at hel
    cases hel
    have hc:=sl_contains ks st r.states[k].is hk0
    have hstep:cntS ks (r.states.take (k+1))=cntS ks (r.states.take k)+if r.states[k].is∈ks then 1 else 0:=by
      rw [List.take_succ_eq_append_getElem hk,cntS_app]; simp [cntS]
    have hle:=cntS_le ks (r.states.take k)
    have hle2:(r.states.take k).length≤1000000:=by rw [List.length_take]; omega
    simp (maxSteps:=1000000) (disch:=omega) only [rg,gD,simprocAttr,setsE,sttV,e1,e2]
    refine ⟨_,hc, ?_⟩
    by_cases hin:r.states[k].is∈ks
    · rw [if_pos hin] at hstep
      simp (maxSteps:=1000000) (disch:=omega) only [rg,gD,simprocAttr,decide_eq_true hin,e2]
      refine hN _ _ ⟨by show 3≤n+1; omega,(by simp (disch:=omega) only [upd_eq,upd_ne,wo_0,wo_1,wo_2,e1]), ?_⟩
      rw [hstep]; simp [upd]
    · rw [if_neg hin] at hstep
      simp (maxSteps:=1000000) (disch:=omega) only [rg,gD,simprocAttr,decide_eq_false hin]
      refine hN _ _ ⟨by show 3≤n+1; omega,(by simp (disch:=omega) only [upd_eq,upd_ne,wo_0,wo_1,wo_2,e1]), ?_⟩
      rw [show cntS ks (r.states.take (k+1))=cntS ks (r.states.take k) by omega]; exact (by simp (disch:=omega) only [upd_eq,upd_ne,wo_0,wo_1,wo_2,e2])
  · rintro ⟨n,m⟩ ⟨hn,e1,e2⟩
    simp only at hn e1 e2
    rw [elsOf_len,mv_len,List.take_length] at e2
    simp (maxSteps:=1000000) (disch:=omega) only [rg,gD,simprocAttr,e2]
    (refine fin_x rfl ?_ ?_<;>simp [pack,lo,loL,V.closed,closedL,mv_closed])
def kindS (l:List Stt):Int:=if cntS [3] l=l.length then 1 else if 0 < cntS [4] l then 2 else if cntS [0,1,2] l=0 then 3 else 0
theorem run_kind (r:Rn) (hr:r.states.length≤1000000):PCall Tryz.prog 124 [rnV r] (.int .i64 (kindS r.states)):=by
  refine en124 (by simp) (by simp [closedL,rnV_closed]) ?_
  have h1:PCall Tryz.prog 128 [rnV r,.fsl .full 1 [.int .i64 3]] _:=run_count r [3] .full (by simp) hr
  have h2:PCall Tryz.prog 128 [rnV r,.fsl .full 1 [.int .i64 4]] _:=run_count r [4] .full (by simp) hr
  have h3:PCall Tryz.prog 128 [rnV r,.fsl .full 1 [.int .i64 0,.int .i64 1,.int .i64 2]] _:=run_count r [0,1,2] .full (by simp) hr
  unfold rnV sttsV at h1 h2 h3
  simp (maxSteps:=1000000) (disch:=omega) only [rg,gD,simprocAttr,c124,rnV,sttsV]
  refine ⟨_,h1, ?_⟩
  by_cases c1:cntS [3] r.states=r.states.length
  · simp (maxSteps:=1000000) (disch:=omega) only [rg,gD,simprocAttr,show ((cntS [3] r.states:Nat):Int)=r.states.length by omega]
    (refine fin_x rfl ?_ ?_<;>simp [pack,lo,loL,V.closed,closedL,mv_closed,kindS,c1])
  simp (maxSteps:=1000000) (disch:=omega) only [rg,gD,simprocAttr,show ¬ ((cntS [3] r.states:Nat):Int)=r.states.length by omega]
  refine ⟨_,h2, ?_⟩
  by_cases c2:0 < cntS [4] r.states
  · simp (maxSteps:=1000000) (disch:=omega) only [rg,gD,simprocAttr,show (0:Int) < ((cntS [4] r.states:Nat):Int) by omega]
    (refine fin_x rfl ?_ ?_<;>simp [pack,lo,loL,V.closed,closedL,mv_closed,kindS,c1,c2])
  simp (maxSteps:=1000000) (disch:=omega) only [rg,gD,simprocAttr,show ¬ (0:Int) < ((cntS [4] r.states:Nat):Int) by omega]
  refine ⟨_,h3, ?_⟩
  by_cases c3:cntS [0,1,2] r.states=0
  · simp (maxSteps:=1000000) (disch:=omega) only [rg,gD,simprocAttr,show ((cntS [0,1,2] r.states:Nat):Int)=0 by omega]
    (refine fin_x rfl ?_ ?_<;>simp [pack,lo,loL,V.closed,closedL,mv_closed,kindS,c1,c2,c3])
  · simp (maxSteps:=1000000) (disch:=omega) only [rg,gD,simprocAttr,show ¬ ((cntS [0,1,2] r.states:Nat):Int)=0 by omega]
    (refine fin_x rfl ?_ ?_<;>simp [pack,lo,loL,V.closed,closedL,mv_closed,kindS,c1,c2,c3])
def hasS (l:List Stt) (k:Int):Bool:=l.any fun s => decide (s.is=k)
def isDone (ss:List Stt) (x:Int):Bool:=match ss[x.toNat]? with | some s => decide (s.is=3) | none => false
def readyS (ts:List Task) (ss:List Stt) (i:Nat):Bool:=(needsOf ts i).all (isDone ss)
theorem isDone_get {ss:List Stt} {x:Int} (h:x.toNat < ss.length):isDone ss x=decide (ss[x.toNat].is=3):=by simp [isDone,h]
theorem ready_clo (H:Hp) (b:Nat) (r:Rn) (x:Int) (hb:b < H.n) (h1:H.m b=some (.arr 5 [rnV r])) (hx:0≤x∧x < r.states.length) :
    ACall Tryz.prog 176 [.int .i64 x,.ptr b 0 0] H [b] (.bool (!isDone r.states x)) [] 0:=by
  refine ena176 (by simp) (by simp [lowL,V.low,hb]) (fun id hid => ?_) (by simp) ?_
  · simp at hid; subst hid
    exact ⟨hb,fun o ho => by rw [h1] at ho; simp at ho; subst ho; simp [Ob.low,lowL,V.low_closed _ (rnV_closed r)]⟩
  have q1:only [b] H.m b=some (.arr 5 [.agg [.str r.key,.str r.dag.name,.fsl .loose 4 (mv taskV r.dag.tasks),.int .i64 r.is,.fsl .loose 5 (mv sttV r.states)]]):=by simp [only,h1]; rfl
  have hlt:x.toNat < r.states.length:=by omega
  simp (maxSteps:=1000000) (disch:=omega) only [rg,gD,simprocAttr,c176,q1,mv_get hlt,sttV]
  exact ⟨hx.1,fin_A (l:=[.bool (!decide (r.states[x.toNat].is=3))]) rfl (.inl (by rw [isDone_get hlt]; rfl)) (by simp) (fun id => .inr rfl)⟩
theorem run_ready (r:Rn) (i:Nat) (hi:i < r.dag.tasks.length) (hr:r.states.length≤1000000) (hin:inR r.dag.tasks r.states.length) (hnl:∀ t∈r.dag.tasks,t.needs.length≤1000000) :
    PCall Tryz.prog 127 [rnV r,.int .i64 i] (.bool (readyS r.dag.tasks r.states i)):=by
  refine en127 (by simp) (by simp [closedL,V.closed,rnV_closed]) ?_
  have hnf:=hin _ (List.getElem_mem hi)
  have hnfl:=hnl _ (List.getElem_mem hi)
  rw [readyS,needsOf_get hi]
  simp (maxSteps:=1000000) (disch:=omega) only [rg,gD,simprocAttr,c127,rnV,sttsV,tasksV,taskV,vI_len]
  refine ⟨_,_,_,_,con_ints (rows:=r.dag.tasks[i].needs) (q:=fun x => !isDone r.states x) (fp:=[0]) (kk:=0) (by omega) rfl (by simp [lowL,V.low]) (fun id hid => ?_) (fun x hx H' h1 h2 => ?_), ?_⟩
  · simp at hid; subst hid
    exact ⟨by simp,fun o ho => by simp [upd] at ho; subst ho; simp only [Ob.low]; exact lowL_closed _ (by simp [closedL,V.closed,mv_closed,taskV_closed,sttV_closed])⟩
  · refine ready_clo H' 0 r x (by simp at h1; omega) ?_ (hnf x hx)
    rw [h2 0 (by simp)]; simp [upd,rnV,sttsV,tasksV]
  · rw [← List.not_all_eq_any_not]
    simp (maxSteps:=1000000) (disch:=omega) only [rg,gD,simprocAttr]
    (refine fin_x rfl ?_ ?_<;>simp [pack,lo,loL,V.closed,closedL,mv_closed])
/-! Tokens that were seen. -/
def tkM (l:List Int):List (V×V):=l.foldl (fun m t => mset m (.int .i64 t) (.bool true)) []
def iKeys (m:List (V×V)):Prop:=∀ p∈m,∃ n:Int,p.1=.int .i64 n
theorem iKeys_mset {m:List (V×V)} (h:iKeys m) (a:Int) (v:V):iKeys (mset m (.int .i64 a) v):=by
  induction m with
  | nil => intro p hp; simp [mset] at hp; subst hp; exact ⟨a,rfl⟩
  | cons q m ih =>
    obtain ⟨k',v'⟩:=q
    have h2:iKeys m:=fun p hp => h p (List.mem_cons_of_mem _ hp)
    intro p hp
    simp only [mset] at hp
    split at hp
    · rcases List.mem_cons.1 hp with rfl | hp
      · exact ⟨a,rfl⟩
      · exact h2 p hp
    · rcases List.mem_cons.1 hp with rfl | hp
      · exact h _ (by simp)
      · exact ih h2 p hp
theorem mget_mset {m:List (V×V)} (h:iKeys m) (a b:Int) (v:V):mget (mset m (.int .i64 a) v) (.int .i64 b)=if b=a then some v else mget m (.int .i64 b):=by
  induction m with
  | nil => simp [mset,mget,keq]
  | cons q m ih =>
    obtain ⟨k',v'⟩:=q
    have h2:iKeys m:=fun p hp => h p (List.mem_cons_of_mem _ hp)
    obtain ⟨n,hn⟩:=h (k',v') (by simp)
    simp only at hn; subst hn
    simp only [mset]
    by_cases e:a=n
    · subst e
      simp only [keq,beq_self_eq_true,if_true,mget,beq_iff_eq]
      by_cases f:b=a<;>simp [f]
    · simp only [keq,show (a == n)=false by simpa using e,Bool.false_eq_true,if_false,mget,ih h2,beq_iff_eq]
      by_cases f:b=n
      · subst f; simp [Ne.symm e]
      · simp [f]
theorem tkM_keys (l:List Int):iKeys (tkM l):=by
  have:∀ (l:List Int) (m:List (V×V)),iKeys m→iKeys (l.foldl (fun m t => mset m (.int .i64 t) (.bool true)) m):=by
    intro l
    induction l with
    | nil => intro m h; exact h
    | cons t l ih => intro m h; exact ih _ (iKeys_mset h _ _)
  exact this l [] (by intro p hp; cases hp)
theorem tkM_snoc (l:List Int) (t:Int):tkM (l++[t])=mset (tkM l) (.int .i64 t) (.bool true):=by simp [tkM,List.foldl_append]
theorem tkM_get (l:List Int) (b:Int):mget (tkM l) (.int .i64 b)=if b∈l then some (.bool true) else none:=by
  have:∀ (l:List Int) (m:List (V×V)),iKeys m→mget (l.foldl (fun m t => mset m (.int .i64 t) (.bool true)) m) (.int .i64 b)=if b∈l then some (.bool true) else mget m (.int .i64 b):=by
    intro l
    induction l with
    | nil => intro m _; simp
    | cons t l ih =>
      intro m h
      rw [List.foldl_cons,ih _ (iKeys_mset h _ _),mget_mset h]
      by_cases c:b∈l
      · simp [c]
      · by_cases d:b=t
        · simp [c,d]
        · simp [c,d]
  rw [tkM,this l [] (by intro p hp; cases hp)]
  rfl
theorem tkM_ok (l:List Int) (b:Int):keysOk [7] (.int .i64 b) (tkM l):=by
  refine ⟨rfl,fun p hp => ?_⟩
  obtain ⟨n,hn⟩:=tkM_keys l p hp
  rw [hn]; rfl
theorem tkM_res (l:List Int) (b:Int):mres false (mget (tkM l) (.int .i64 b)) (.bool false)=.bool (decide (b∈l)):=by
  rw [tkM_get]
  by_cases c:b∈l<;>simp [mres,c]
def nameS (s:Str):Bool:=decide (1≤s.length∧s.length≤16)
theorem run_name (s:Str) (hs:s.length≤4611686018427387904):PCall Tryz.prog 123 [.str s] (.bool (nameS s)):=by
  refine en123 (by simp) (by simp [closedL,V.closed]) ?_
  by_cases c:1≤s.length
  · simp (maxSteps:=1000000) (disch:=omega) only [rg,gD,simprocAttr,c123,show (1:Int)≤s.length by omega,ge_iff_le]
    (refine fin_x rfl ?_ ?_<;>simp [pack,lo,loL,V.closed,closedL,mv_closed,show nameS s=decide ((s.length:Int)≤16) by simp [nameS,c]; omega])
  · simp (maxSteps:=1000000) (disch:=omega) only [rg,gD,simprocAttr,c123,show ¬ (1:Int)≤s.length by omega,ge_iff_le]
    (refine fin_x rfl ?_ ?_<;>simp [pack,lo,loL,V.closed,closedL,mv_closed,show nameS s=false by simp [nameS,c]])
def tokS (l:List Stt):List Int:=l.map (·.token)
def badS (ts:List Task) (ss:List Stt) (i:Nat):Bool :=
  match ts[i]?,ss[i]? with
  | some t,some s => !trightS t s || (decide (0 < s.token) && decide (s.token∈tokS (ss.take i))) || (decide (s.is≠5) && (decide (s.is=0) == readyS ts ss i))
  | _,_ => true
def rightS (r:Rn):Bool :=
  nameS r.key && decide (dagRightS r.dag=0) && decide (r.states.length=r.dag.tasks.length) && decide (r.is=kindS r.states) &&
    ((List.range r.states.length).all fun i => !badS r.dag.tasks r.states i) &&
    (if r.is=2 then decide (cntS [0,1,2] r.states=0) else if r.is=0 then decide (cntS [5] r.states=0) else true)
structure RnOk (r:Rn):Prop where
  key:r.key.length≤4611686018427387904
  needs:∀ t∈r.dag.tasks,t.needs.length≤4611686018427387904
  tasks:r.dag.tasks.length≤4611686018427387904
  states:r.states.length≤4611686018427387904
  results:∀ s∈r.states,s.result.length≤4611686018427387904
theorem dag_okn {d:Dag} (h:dagRightS d=0):d.tasks.length≤10∧inR d.tasks d.tasks.length∧∀ t∈d.tasks,t.needs.length≤10:=by
  unfold dagRightS at h
  by_cases c0:10 < d.tasks.length
  · rw [if_pos c0] at h; cases h
  rw [if_neg c0] at h
  by_cases c1:d.tasks.length < 1∨d.name.length < 1∨16 < d.name.length∨(d.tasks.any fun t => !taskOkS t d.tasks.length)=true
  · rw [if_pos c1] at h; cases h
  have hall:∀ t∈d.tasks,taskOkS t d.tasks.length=true:=fun t ht => by
    cases e:taskOkS t d.tasks.length with
    | true => rfl
    | false => exact absurd (.inr (.inr (.inr (List.any_eq_true.2 ⟨t,ht,by simp [e]⟩)))) c1
  refine ⟨by omega,fun t ht => ?_,fun t ht => ?_⟩
  · have:=hall t ht
    simp only [taskOkS,Bool.and_eq_true] at this
    exact (rise_range this.1 (by omega)).1
  · have:=hall t ht
    simp only [taskOkS,Bool.and_eq_true] at this
    have:=(rise_range this.1 (by omega)).2
    omega
theorem badS_get {ts:List Task} {ss:List Stt} {i:Nat} (h1:i < ts.length) (h2:i < ss.length):badS ts ss i=(!trightS ts[i] ss[i] || (decide (0 < ss[i].token) && decide (ss[i].token∈tokS (ss.take i))) || (decide (ss[i].is≠5) && (decide (ss[i].is=0) == readyS ts ss i))):=by
  simp [badS,h1,h2]
theorem rightS_bad {r:Rn} {k:Nat} (hk:k < r.states.length) (h:badS r.dag.tasks r.states k=true):rightS r=false:=by
  have:((List.range r.states.length).all fun i => !badS r.dag.tasks r.states i)=false:=by
    rw [List.all_eq_false]; exact ⟨k,by simpa using hk,by simp [h]⟩
  simp [rightS,this]
theorem tokS_take {l:List Stt} {k:Nat} (h:k < l.length):tokS (l.take (k+1))=tokS (l.take k)++[l[k].token]:=by
  rw [tokS,List.take_succ_eq_append_getElem h,List.map_append]; rfl
theorem run_right (r:Rn) (ok:RnOk r):PCall Tryz.prog 57 [rnV r] (.bool (rightS r)):=by
  refine en57 (by simp) (by simp [closedL,V.closed,rnV_closed]) ?_
  have hn:=run_name r.key ok.key
  have hd:=dag_right r.dag ok.needs ok.tasks
  unfold dagV tasksV at hd
  by_cases c1:nameS r.key=true
  case neg =>
    have c1:nameS r.key=false:=by simpa using c1
    rw [c1] at hn
    simp (maxSteps:=1000000) (disch:=omega) only [rg,gD,simprocAttr,c57,rnV,sttsV,tasksV]
    refine ⟨_,hn, ?_⟩
    simp (maxSteps:=1000000) (disch:=omega) only [rg,gD,simprocAttr]
    (refine fin_x rfl ?_ ?_<;>simp [pack,lo,loL,V.closed,closedL,mv_closed,show rightS r=false by simp [rightS,c1]])
  rw [c1] at hn
  by_cases c2:dagRightS r.dag=0
  case neg =>
    simp (maxSteps:=1000000) (disch:=omega) only [rg,gD,simprocAttr,c57,rnV,sttsV,tasksV]
    refine ⟨_,hn, ?_⟩
    simp (maxSteps:=1000000) (disch:=omega) only [rg,gD,simprocAttr]
    refine ⟨_,hd, ?_⟩
    simp (maxSteps:=1000000) (disch:=omega) only [rg,gD,simprocAttr,c2]
    (refine fin_x rfl ?_ ?_<;>simp [pack,lo,loL,V.closed,closedL,mv_closed,show rightS r=false by simp [rightS,c2]])
  rw [c2] at hd
  obtain ⟨hl,hin,hnl⟩:=dag_okn c2
  by_cases c3:r.states.length=r.dag.tasks.length
  case neg =>
    simp (maxSteps:=1000000) (disch:=omega) only [rg,gD,simprocAttr,c57,rnV,sttsV,tasksV]
    refine ⟨_,hn, ?_⟩
    simp (maxSteps:=1000000) (disch:=omega) only [rg,gD,simprocAttr]
    refine ⟨_,hd, ?_⟩
    simp (maxSteps:=1000000) (disch:=omega) only [rg,gD,simprocAttr,show ¬ (r.states.length:Int)=r.dag.tasks.length by omega]
    (refine fin_x rfl ?_ ?_<;>simp [pack,lo,loL,V.closed,closedL,mv_closed,show rightS r=false by simp [rightS,c3]])
  have hk:=run_kind r (by omega)
  unfold rnV sttsV tasksV at hk
  by_cases c4:r.is=kindS r.states
  case neg =>
    simp (maxSteps:=1000000) (disch:=omega) only [rg,gD,simprocAttr,c57,rnV,sttsV,tasksV]
    refine ⟨_,hn, ?_⟩
    simp (maxSteps:=1000000) (disch:=omega) only [rg,gD,simprocAttr]
    refine ⟨_,hd, ?_⟩
    simp (maxSteps:=1000000) (disch:=omega) only [rg,gD,simprocAttr,show (r.states.length:Int)=r.dag.tasks.length by omega]
    refine ⟨_,hk, ?_⟩
    simp (maxSteps:=1000000) (disch:=omega) only [rg,gD,simprocAttr,c4]
    (refine fin_x rfl ?_ ?_<;>simp [pack,lo,loL,V.closed,closedL,mv_closed,show rightS r=false by simp [rightS,c4]])
  have he:=run_each r
  unfold rnV sttsV tasksV at he
  simp (maxSteps:=1000000) (disch:=omega) only [rg,gD,simprocAttr,c57,rnV,sttsV,tasksV]
  refine ⟨_,hn, ?_⟩
  simp (maxSteps:=1000000) (disch:=omega) only [rg,gD,simprocAttr]
  refine ⟨_,hd, ?_⟩
  simp (maxSteps:=1000000) (disch:=omega) only [rg,gD,simprocAttr,show (r.states.length:Int)=r.dag.tasks.length by omega]
  refine ⟨_,hk, ?_⟩
  simp (maxSteps:=1000000) (disch:=omega) only [rg,gD,simprocAttr,eq_true c4]
  refine ⟨_,he, ?_⟩
  simp (maxSteps:=1000000) (disch:=omega) only [rg,gD,simprocAttr]
  have hsq:=seq_each r (by omega)
  unfold rnV sttsV tasksV at hsq
  have hrunV:V.agg [V.str r.key,V.str r.dag.name,V.fsl .loose 4 (mv taskV r.dag.tasks),V.int .i64 r.is,V.fsl .loose 5 (mv sttV r.states)]=rnV r:=rfl
  refine x_rf (elsOf 0 (mv sttV r.states)) (fun k H => 4≤H.n∧H.m 0=some (.arr 5 [V.agg [V.str r.key,V.str r.dag.name,V.fsl .loose 4 (mv taskV r.dag.tasks),V.int .i64 r.is,V.fsl .loose 5 (mv sttV r.states)]])∧H.m 1=some (.arr 1 [V.bool false]) ∧
    H.m 2=some (.mp (tkM (tokS (r.states.take k))))∧H.m 3=some (.arr 1 [V.map 2])∧∀ i,i < k→badS r.dag.tasks r.states i=false) rfl (by simp [closedL,V.closed,mv_closed,sttV_closed,taskV_closed]) hsq elsOf_two
    ⟨Nat.le_refl 4,by simp [upd],by simp [upd],by simp [upd,tkM,tokS],by simp [upd],by intro i hi; omega⟩ ?_ ?_
  · rintro T k el ⟨n,m⟩ ⟨hn4,e0,e1,e2,e3,hb⟩ hel hN hX hR
    simp only at hn4 e0 e1 e2 e3
    rw [elsOf_at,Nat.zero_add] at hel
    have hk:k < r.states.length:=by
      rcases Nat.lt_or_ge k r.states.length with h | h
      · exact h
      · rw [List.getElem?_eq_none (by rw [mv_len]; exact h)] at hel; cases hel
    rw [mv_get hk] at hel
    cases hel
    have hkt:k < r.dag.tasks.length:=by omega
    have bad:=badS_get hkt hk
    have htr:=task_right r.dag.tasks[k] r.states[k] (ok.results _ (List.getElem_mem hk))
    have hrd:=run_ready r k hkt (by omega) (by rw [c3]; exact hin) (fun t ht => by have:=hnl t ht; omega)
    unfold rnV sttsV tasksV at hrd
    unfold taskV sttV at htr
    have n1:(1:Nat)≠n:=by omega
    have n0:(0:Nat)≠n:=by omega
    have n2:(2:Nat)≠n:=by omega
    have n3:(3:Nat)≠n:=by omega
    have no:badS r.dag.tasks r.states k=true→∀ σ' H2,H2.m 1=some (Ob.arr 1 [V.bool false])→T .ret σ' H2:=fun hbad σ' H2 h1 => by
      refine hR _ _ ?_
      simp (maxSteps:=1000000) (disch:=omega) only [rg,gD,simprocAttr]
      have hz:=rightS_bad hk hbad
      refine fin_x (l:=[V.bool false]) (by simp [r57,resE,find,loadO,h1,getC,V.cell]) ?_ ?_<;>simp [hz,pack,V.closed,lo]
    simp (maxSteps:=1000000) (disch:=omega) only [rg,gD,simprocAttr,setsE,sttV,taskV,e0,mv_get hkt]
    refine ⟨_,htr, ?_⟩
    cases b1:trightS r.dag.tasks[k] r.states[k] with
    | false =>
      rw [b1] at bad
      simp (maxSteps:=1000000) (disch:=omega) only [rg,gD,simprocAttr,e1]
      exact no (by rw [bad]; rfl) _ _ (by simp [upd])
    | true =>
    rw [b1] at bad
    have tko:=tkM_ok (tokS (r.states.take k)) r.states[k].token
    have tkr:=tkM_res (tokS (r.states.take k)) r.states[k].token
    have stay:4≤n+1:=by omega
    have next:∀ (n':Nat) (m':Hm),4≤n'→m' 0=some (.arr 5 [V.agg [V.str r.key,V.str r.dag.name,V.fsl .loose 4 (mv taskV r.dag.tasks),V.int .i64 r.is,V.fsl .loose 5 (mv sttV r.states)]])→m' 1=some (.arr 1 [V.bool false]) →
        m' 2=some (.mp (mset (tkM (tokS (r.states.take k))) (.int .i64 r.states[k].token) (.bool true)))→m' 3=some (.arr 1 [V.map 2])→badS r.dag.tasks r.states k=false →
        4≤n'∧m' 0=some (.arr 5 [V.agg [V.str r.key,V.str r.dag.name,V.fsl .loose 4 (mv taskV r.dag.tasks),V.int .i64 r.is,V.fsl .loose 5 (mv sttV r.states)]])∧m' 1=some (.arr 1 [V.bool false]) ∧
          m' 2=some (.mp (tkM (tokS (r.states.take (k+1)))))∧m' 3=some (.arr 1 [V.map 2])∧∀ i,i < k+1→badS r.dag.tasks r.states i=false:=fun n' m' p1 p2 p3 p4 p5 p6 =>
      ⟨p1,p2,p3,by rw [p4,tokS_take hk,tkM_snoc],p5,fun i hi => by
        by_cases hik:i=k
        · subst hik; exact p6
        · exact hb i (by omega)⟩
    by_cases b2:0 < r.states[k].token
    · by_cases b3:r.states[k].token∈tokS (r.states.take k)
      · rw [decide_eq_true b3] at tkr
        simp (maxSteps:=1000000) (disch:=omega) only [rg,gD,simprocAttr,b2,e1,e2,e3,tkr]
        exact ⟨tko,no (by rw [bad]; simp [b2,b3]) _ _ (by simp [upd])⟩
      · rw [decide_eq_false b3] at tkr
        simp (maxSteps:=1000000) (disch:=omega) only [rg,gD,simprocAttr,b2,tkr,e0,e2,e3]
        have bq:badS r.dag.tasks r.states k=(decide (r.states[k].is≠5) && (decide (r.states[k].is=0) == readyS r.dag.tasks r.states k)):=by rw [bad]; simp [b2,b3]
        by_cases d5:r.states[k].is=5
        · simp (maxSteps:=1000000) (disch:=omega) only [rg,gD,simprocAttr,b2,tkr,e0,e1,e2,e3,eq_true d5]
          exact ⟨tko,tko,hN _ _ (next _ _ stay (by simp (disch:=omega) only [upd_eq,upd_ne,wo_0,wo_1,wo_2,e0]) (by simp (disch:=omega) only [upd_eq,upd_ne,wo_0,wo_1,wo_2,e1]) (by simp (disch:=omega) only [upd_eq,upd_ne,wo_0,wo_1,wo_2]) (by simp (disch:=omega) only [upd_eq,upd_ne,wo_0,wo_1,wo_2,e3]) (by rw [bq]; simp [d5]))⟩
        rw [show decide (r.states[k].is≠5)=true by simp [d5],Bool.true_and] at bq
        by_cases d0:r.states[k].is=0
        · rw [decide_eq_true d0] at bq
          simp (maxSteps:=1000000) (disch:=omega) only [rg,gD,simprocAttr,b2,tkr,e0,e1,e2,e3,eq_false d5,eq_true d0]
          refine ⟨tko,tko,_,hrd, ?_⟩
          cases hq:readyS r.dag.tasks r.states k with
          | true =>
            rw [hq] at bq
            simp (maxSteps:=1000000) (disch:=omega) only [rg,gD,simprocAttr,e1]
            exact no (by rw [bq]; rfl) _ _ (by simp [upd])
          | false =>
            rw [hq] at bq
            simp (maxSteps:=1000000) (disch:=omega) only [rg,gD,simprocAttr]
            exact hN _ _ (next _ _ stay (by simp (disch:=omega) only [upd_eq,upd_ne,wo_0,wo_1,wo_2,e0]) (by simp (disch:=omega) only [upd_eq,upd_ne,wo_0,wo_1,wo_2,e1]) (by simp (disch:=omega) only [upd_eq,upd_ne,wo_0,wo_1,wo_2]) (by simp (disch:=omega) only [upd_eq,upd_ne,wo_0,wo_1,wo_2,e3]) (by rw [bq]; rfl))
        · rw [decide_eq_false d0] at bq
          simp (maxSteps:=1000000) (disch:=omega) only [rg,gD,simprocAttr,b2,tkr,e0,e1,e2,e3,eq_false d5,eq_false d0]
          refine ⟨tko,tko,_,hrd, ?_⟩
          cases hq:readyS r.dag.tasks r.states k with
          | true =>
            rw [hq] at bq
            simp (maxSteps:=1000000) (disch:=omega) only [rg,gD,simprocAttr]
            exact hN _ _ (next _ _ stay (by simp (disch:=omega) only [upd_eq,upd_ne,wo_0,wo_1,wo_2,e0]) (by simp (disch:=omega) only [upd_eq,upd_ne,wo_0,wo_1,wo_2,e1]) (by simp (disch:=omega) only [upd_eq,upd_ne,wo_0,wo_1,wo_2]) (by simp (disch:=omega) only [upd_eq,upd_ne,wo_0,wo_1,wo_2,e3]) (by rw [bq]; rfl))
          | false =>
            rw [hq] at bq
            simp (maxSteps:=1000000) (disch:=omega) only [rg,gD,simprocAttr,e1]
            exact no (by rw [bq]; rfl) _ _ (by simp [upd])
    · skip
      simp (maxSteps:=1000000) (disch:=omega) only [rg,gD,simprocAttr,b2,e0,e2,e3]
      have bq:badS r.dag.tasks r.states k=(decide (r.states[k].is≠5) && (decide (r.states[k].is=0) == readyS r.dag.tasks r.states k)):=by rw [bad]; simp [b2]
      by_cases d5:r.states[k].is=5
      · simp (maxSteps:=1000000) (disch:=omega) only [rg,gD,simprocAttr,b2,e0,e1,e2,e3,eq_true d5]
        exact ⟨tko,hN _ _ (next _ _ stay (by simp (disch:=omega) only [upd_eq,upd_ne,wo_0,wo_1,wo_2,e0]) (by simp (disch:=omega) only [upd_eq,upd_ne,wo_0,wo_1,wo_2,e1]) (by simp (disch:=omega) only [upd_eq,upd_ne,wo_0,wo_1,wo_2]) (by simp (disch:=omega) only [upd_eq,upd_ne,wo_0,wo_1,wo_2,e3]) (by rw [bq]; simp [d5]))⟩
      rw [show decide (r.states[k].is≠5)=true by simp [d5],Bool.true_and] at bq
      by_cases d0:r.states[k].is=0
      · rw [decide_eq_true d0] at bq
        simp (maxSteps:=1000000) (disch:=omega) only [rg,gD,simprocAttr,b2,e0,e1,e2,e3,eq_false d5,eq_true d0]
        refine ⟨tko,_,hrd, ?_⟩
        cases hq:readyS r.dag.tasks r.states k with
        | true =>
          rw [hq] at bq
          simp (maxSteps:=1000000) (disch:=omega) only [rg,gD,simprocAttr,e1]
          exact no (by rw [bq]; rfl) _ _ (by simp [upd])
        | false =>
          rw [hq] at bq
          simp (maxSteps:=1000000) (disch:=omega) only [rg,gD,simprocAttr]
          exact hN _ _ (next _ _ stay (by simp (disch:=omega) only [upd_eq,upd_ne,wo_0,wo_1,wo_2,e0]) (by simp (disch:=omega) only [upd_eq,upd_ne,wo_0,wo_1,wo_2,e1]) (by simp (disch:=omega) only [upd_eq,upd_ne,wo_0,wo_1,wo_2]) (by simp (disch:=omega) only [upd_eq,upd_ne,wo_0,wo_1,wo_2,e3]) (by rw [bq]; rfl))
      · rw [decide_eq_false d0] at bq
        simp (maxSteps:=1000000) (disch:=omega) only [rg,gD,simprocAttr,b2,e0,e1,e2,e3,eq_false d5,eq_false d0]
        refine ⟨tko,_,hrd, ?_⟩
        cases hq:readyS r.dag.tasks r.states k with
        | true =>
          rw [hq] at bq
          simp (maxSteps:=1000000) (disch:=omega) only [rg,gD,simprocAttr]
          exact hN _ _ (next _ _ stay (by simp (disch:=omega) only [upd_eq,upd_ne,wo_0,wo_1,wo_2,e0]) (by simp (disch:=omega) only [upd_eq,upd_ne,wo_0,wo_1,wo_2,e1]) (by simp (disch:=omega) only [upd_eq,upd_ne,wo_0,wo_1,wo_2]) (by simp (disch:=omega) only [upd_eq,upd_ne,wo_0,wo_1,wo_2,e3]) (by rw [bq]; rfl))
        | false =>
          rw [hq] at bq
          simp (maxSteps:=1000000) (disch:=omega) only [rg,gD,simprocAttr,e1]
          exact no (by rw [bq]; rfl) _ _ (by simp [upd])
  · rintro ⟨n,m⟩ ⟨hn4,e0,e1,e2,e3,hb⟩
    simp only at hn4 e0 e1 e2 e3
    rw [elsOf_len,mv_len] at hb
    have hall:((List.range r.states.length).all fun i => !badS r.dag.tasks r.states i)=true:=by
      rw [List.all_eq_true]; intro i hi; rw [hb i (by simpa using hi)]; rfl
    have hres:rightS r=(if r.is=2 then decide (cntS [0,1,2] r.states=0) else if r.is=0 then decide (cntS [5] r.states=0) else true):=by
      rw [rightS,c1,decide_eq_true c2,decide_eq_true c3,decide_eq_true c4,hall]; simp
    have h3:PCall Tryz.prog 128 [rnV r,.fsl .full 1 [.int .i64 0,.int .i64 1,.int .i64 2]] _:=run_count r [0,1,2] .full (by simp) (by omega)
    have h5:PCall Tryz.prog 128 [rnV r,.fsl .full 1 [.int .i64 5]] _:=run_count r [5] .full (by simp) (by omega)
    unfold rnV sttsV tasksV at h3 h5
    simp (maxSteps:=1000000) (disch:=omega) only [rg,gD,simprocAttr,e0]
    refine ⟨_,h3, ?_⟩
    by_cases d2:r.is=2
    · rw [if_pos d2] at hres
      simp (maxSteps:=1000000) (disch:=omega) only [rg,gD,simprocAttr,e0,e1,eq_true d2]
      by_cases z:cntS [0,1,2] r.states=0
      · simp (maxSteps:=1000000) (disch:=omega) only [rg,gD,simprocAttr,show ((cntS [0,1,2] r.states:Nat):Int)=0 by omega]
        (refine fin_x rfl ?_ ?_<;>simp [pack,lo,loL,V.closed,closedL,mv_closed,hres,z])
      · simp (maxSteps:=1000000) (disch:=omega) only [rg,gD,simprocAttr,show ¬ ((cntS [0,1,2] r.states:Nat):Int)=0 by omega]
        (refine fin_x rfl ?_ ?_<;>simp [pack,lo,loL,V.closed,closedL,mv_closed,hres,z])
    · rw [if_neg d2] at hres
      by_cases d0:r.is=0
      · rw [if_pos d0] at hres
        simp (maxSteps:=1000000) (disch:=omega) only [rg,gD,simprocAttr,e0,e1,eq_false d2,eq_true d0]
        refine ⟨_,h5, ?_⟩
        by_cases z:cntS [5] r.states=0
        · simp (maxSteps:=1000000) (disch:=omega) only [rg,gD,simprocAttr,e0,e1,show ((cntS [5] r.states:Nat):Int)=0 by omega]
          (refine fin_x rfl ?_ ?_<;>simp [pack,lo,loL,V.closed,closedL,mv_closed,hres,z])
        · simp (maxSteps:=1000000) (disch:=omega) only [rg,gD,simprocAttr,e0,e1,show ¬ ((cntS [5] r.states:Nat):Int)=0 by omega]
          (refine fin_x rfl ?_ ?_<;>simp [pack,lo,loL,V.closed,closedL,mv_closed,hres,z])
      · rw [if_neg d0] at hres
        simp (maxSteps:=1000000) (disch:=omega) only [rg,gD,simprocAttr,e0,e1,eq_false d2,eq_false d0]
        (refine fin_x rfl ?_ ?_<;>simp [pack,lo,loL,V.closed,closedL,mv_closed,hres])
theorem cntS_zero {ks:List Int}:∀ {l:List Stt},cntS ks l=0↔∀ s∈l,s.is∉ks
  | [] => by simp [cntS]
  | s::l => by
    simp only [cntS,List.mem_cons,forall_eq_or_imp,← cntS_zero (l:=l)]
    by_cases h:s.is∈ks<;>simp [h]
theorem cntS_all {ks:List Int}:∀ {l:List Stt},cntS ks l=l.length↔∀ s∈l,s.is∈ks
  | [] => by simp [cntS]
  | s::l => by
    have hle:=cntS_le ks l
    simp only [cntS,List.mem_cons,forall_eq_or_imp,← cntS_all (l:=l),List.length_cons]
    by_cases h:s.is∈ks
    · simp [h]; omega
    · simp [h]; omega
theorem hasS_iff {l:List Stt} {k:Int}:hasS l k=true↔∃ s∈l,s.is=k:=by simp [hasS]
theorem hasS_not {l:List Stt} {k:Int}:hasS l k=false↔∀ s∈l,s.is≠k:=by simp [hasS]
def dueAt (l:List Stt) (i:Int):Int:=match l[i.toNat]? with | some s => s.due | none => 0
def overS (u:Int) (l:List Stt):Nat→Int
  | 0 => -1
  | k+1 => match l[k]? with
    | some s => if s.is=2∧s.due≤u∧(overS u l k < 0∨s.due < dueAt l (overS u l k)) then (k:Int) else overS u l k
    | none => overS u l k
theorem overS_range (u:Int) (l:List Stt):∀ k,-1≤overS u l k∧overS u l k < k
  | 0 => by simp [overS]
  | k+1 => by
    have:=overS_range u l k
    simp only [overS]
    split
    · split<;>omega
    · omega
theorem overS_succ {u:Int} {l:List Stt} {k:Nat} (h:k < l.length):overS u l (k+1)=if l[k].is=2∧l[k].due≤u∧(overS u l k < 0∨l[k].due < dueAt l (overS u l k)) then (k:Int) else overS u l k:=by
  simp [overS,h]
theorem dueAt_get {l:List Stt} {i:Int} (h:i.toNat < l.length):dueAt l i=l[i.toNat].due:=by simp [dueAt,h]
theorem run_first (r:Rn) (now:Int) (hr:r.states.length≤1000000):PCall Tryz.prog 218 [rnV r,.int .i64 now] (.int .i64 (overS (untilS [now]) r.states r.states.length)):=by
  refine en218 (by simp) (by simp [closedL,V.closed,rnV_closed]) ?_
  have he:=run_each r
  have hsq:=seq_each r (by omega)
  have hw:=wait_until0 now .nil
  unfold rnV sttsV at he hsq
  simp (maxSteps:=1000000) (disch:=omega) only [rg,gD,simprocAttr,c218,rnV,sttsV]
  refine ⟨_,he, ?_⟩
  simp (maxSteps:=1000000) (disch:=omega) only [rg,gD,simprocAttr]
  refine x_rf (elsOf 0 (mv sttV r.states)) (fun k H => 3≤H.n∧H.m 0=some (.arr 5 [V.agg [V.str r.key,V.str r.dag.name,tasksV r.dag.tasks,V.int .i64 r.is,V.fsl .loose 5 (mv sttV r.states)]])∧H.m 1=some (.arr 1 [V.int .i64 now])∧H.m 2=some (.arr 1 [V.int .i64 (overS (untilS [now]) r.states k)])) rfl (by simp [closedL,V.closed,tasksV_closed,mv_closed,sttV_closed]) hsq elsOf_two
    ⟨Nat.le_refl 3,by simp [upd],by simp [upd],by simp [upd,overS]⟩ ?_ ?_
  · rintro T k el ⟨n,m⟩ ⟨hn,e0,e1,e2⟩ hel hN hX hR
    simp only at hn e0 e1 e2
    rw [elsOf_at,Nat.zero_add] at hel
    have hk:k < r.states.length:=by
      rcases Nat.lt_or_ge k r.states.length with h | h
      · exact h
      · rw [List.getElem?_eq_none (by rw [mv_len]; exact h)] at hel; cases hel
    rw [mv_get hk] at hel
    cases hel
    have hov:=overS_succ (u:=untilS [now]) hk
    have hrg:=overS_range (untilS [now]) r.states k
    have keep:∀ σ' (n':Nat) (m':Hm),overS (untilS [now]) r.states (k+1)=overS (untilS [now]) r.states k→3≤n'→m' 0=m 0→m' 1=m 1→m' 2=m 2→T .norm σ' ⟨n',m'⟩:=fun σ' n' m' h1 h2 h3 h4 h5 => hN _ _ ⟨h2,h3.trans e0,h4.trans e1,by rw [h1]; exact h5.trans e2⟩
    by_cases a1:r.states[k].is=2
    · by_cases a2:r.states[k].due≤untilS [now]
      · simp (maxSteps:=1000000) (disch:=omega) only [rg,gD,simprocAttr,setsE,sttV,e0,e1,e2,eq_true a1]
        refine ⟨_,hw, ?_⟩
        by_cases a3:overS (untilS [now]) r.states k < 0
        · simp (maxSteps:=1000000) (disch:=omega) only [rg,gD,simprocAttr,a2,a3,e2]
          refine hN _ _ ⟨?_, ?_, ?_, ?_⟩
          · show 3≤n+1; omega
          · exact (by simp (disch:=omega) only [upd_eq,upd_ne,wo_0,wo_1,wo_2,e0])
          · exact (by simp (disch:=omega) only [upd_eq,upd_ne,wo_0,wo_1,wo_2,e1])
          · rw [hov,if_pos ⟨a1,a2,.inl a3⟩]; exact (by simp (disch:=omega) only [upd_eq,upd_ne,wo_0,wo_1,wo_2])
        · have hlt:(overS (untilS [now]) r.states k).toNat < r.states.length:=by omega
          have hdu:=dueAt_get hlt
          by_cases a4:r.states[k].due < r.states[(overS (untilS [now]) r.states k).toNat].due
          · simp (maxSteps:=1000000) (disch:=omega) only [rg,gD,simprocAttr,a2,a3,e0,e2,mv_get hlt,sttV,a4]
            refine ⟨by omega,hN _ _ ⟨?_, ?_, ?_, ?_⟩⟩
            · show 3≤n+1; omega
            · exact (by simp (disch:=omega) only [upd_eq,upd_ne,wo_0,wo_1,wo_2,e0])
            · exact (by simp (disch:=omega) only [upd_eq,upd_ne,wo_0,wo_1,wo_2,e1])
            · rw [hov,if_pos ⟨a1,a2,.inr (by rw [hdu]; exact a4)⟩]; exact (by simp (disch:=omega) only [upd_eq,upd_ne,wo_0,wo_1,wo_2])
          · simp (maxSteps:=1000000) (disch:=omega) only [rg,gD,simprocAttr,a2,a3,e0,e2,mv_get hlt,sttV,a4]
            refine ⟨by omega,keep _ _ _ (by rw [hov,if_neg (fun h => h.2.2.elim a3 (by rw [hdu]; exact a4))]) ?_ ?_ ?_ ?_⟩
            · show 3≤n+1; omega
            · exact (by simp (disch:=omega) only [upd_eq,upd_ne,wo_0,wo_1,wo_2])
            · exact (by simp (disch:=omega) only [upd_eq,upd_ne,wo_0,wo_1,wo_2])
            · exact (by simp (disch:=omega) only [upd_eq,upd_ne,wo_0,wo_1,wo_2])
      · simp (maxSteps:=1000000) (disch:=omega) only [rg,gD,simprocAttr,setsE,sttV,e0,e1,e2,eq_true a1]
        refine ⟨_,hw, ?_⟩
        simp (maxSteps:=1000000) (disch:=omega) only [rg,gD,simprocAttr,a2]
        exact keep _ _ _ (by rw [hov,if_neg (fun h => a2 h.2.1)]) (by show 3≤n+1; omega) (by simp (disch:=omega) only [upd_eq,upd_ne,wo_0,wo_1,wo_2]) (by simp (disch:=omega) only [upd_eq,upd_ne,wo_0,wo_1,wo_2]) (by simp (disch:=omega) only [upd_eq,upd_ne,wo_0,wo_1,wo_2])
    · simp (maxSteps:=1000000) (disch:=omega) only [rg,gD,simprocAttr,setsE,sttV,e0,e1,e2,eq_false a1]
      exact keep _ _ _ (by rw [hov,if_neg (fun h => a1 h.1)]) (by show 3≤n+1; omega) (by simp (disch:=omega) only [upd_eq,upd_ne,wo_0,wo_1,wo_2]) (by simp (disch:=omega) only [upd_eq,upd_ne,wo_0,wo_1,wo_2]) (by simp (disch:=omega) only [upd_eq,upd_ne,wo_0,wo_1,wo_2])
  · rintro ⟨n,m⟩ ⟨hn,e0,e1,e2⟩
    simp only at hn e0 e1 e2
    rw [elsOf_len,mv_len] at e2
    simp (maxSteps:=1000000) (disch:=omega) only [rg,gD,simprocAttr,e2]
    (refine fin_x rfl ?_ ?_<;>simp [pack,lo,loL,V.closed,closedL,mv_closed])
def Gro (lo n:Nat) (m:Hm) (sz:Nat) (v:V) (l:List V):Prop :=
  (∃ st,(st≠.loose∧st≠.nn)∧v=.fsl st sz []∧l=[])∨∃ id,lo≤id∧id < n∧v=.sl id 0 l.length∧m id=some (.arr sz l)
theorem Gro.nil {lo n:Nat} {m:Hm} {sz:Nat}:Gro lo n m sz (.fsl .nil sz []) []:=.inl ⟨.nil,by decide,rfl,rfl⟩
theorem Gro.full {lo n:Nat} {m:Hm} {sz:Nat}:Gro lo n m sz (.fsl .full sz []) []:=.inl ⟨.full,by decide,rfl,rfl⟩
theorem Gro.keep {lo n n':Nat} {m m':Hm} {sz:Nat} {v:V} {l:List V} (h:Gro lo n m sz v l) (hn:n≤n') (hm:∀ id,lo≤id→id < n→m' id=m id):Gro lo n' m' sz v l:=by
  rcases h with h | ⟨id,h1,h2,h3,h4⟩
  · exact .inl h
  · exact .inr ⟨id,h1,by omega,h3,by rw [hm id h1 h2]; exact h4⟩
theorem Gro.down {lo lo' n:Nat} {m:Hm} {sz:Nat} {v:V} {l:List V} (h:Gro lo n m sz v l) (hl:lo'≤lo):Gro lo' n m sz v l:=by
  rcases h with h | ⟨id,h1,h2,h3,h4⟩
  · exact .inl h
  · exact .inr ⟨id,by omega,h2,h3,h4⟩
theorem Gro.rd {lo n:Nat} {m:Hm} {sz:Nat} {v:V} {l:List V} (h:Gro lo n m sz v l):rd m v=some (sz,l):=by
  rcases h with ⟨st,_,rfl,rfl⟩ | ⟨id,h1,h2,rfl,h3⟩
  · rfl
  · simp [Ev.rd,h3]
theorem Gro.cell {lo n:Nat} {m:Hm} {sz:Nat} {v:V} {l:List V} (h:Gro lo n m sz v l):v.cell=true:=by
  rcases h with ⟨st,_,rfl,rfl⟩ | ⟨id,h1,h2,rfl,h3⟩<;>rfl
theorem Gro.frz {lo n:Nat} {m:Hm} {sz:Nat} {v:V} {l:List V} (h:Gro lo n m sz v l) (hc:closedL l=true):∃ fz st,(∀ id∈fz,lo≤id∧id < n)∧(∀ k,snap (k+1) (only fz m) v=some (.fsl st sz l))∧frzV fz m v=.fsl st sz l:=by
  have fin:∀ {fz st},(∀ k,snap (k+1) (only fz m) v=some (.fsl st sz l))→frzV fz m v=.fsl st sz l:=fun hk => by simp only [frzV,hk 3]
  rcases h with ⟨st,h0,rfl,rfl⟩ | ⟨id,h1,h1',rfl,h2⟩
  · have:=fun k => snap_cl (n:=k+1) (m:=only [] m) (v:=.fsl st sz []) rfl
    exact ⟨[],st,by simp,this,fin this⟩
  · have:=fun k => snap_sl (n:=k) (m:=only [id] m) (id:=id) (sz:=sz) (l:=l) (by simp [only,h2]) hc rfl
    exact ⟨[id],.loose,by simp; omega,this,fin this⟩
theorem mapO_app {f:V→Option V} {a b a' b':List V} (ha:mapO f a=some a') (hb:mapO f b=some b'):mapO f (a++b)=some (a'++b'):=by
  induction a generalizing a' with
  | nil => simp [mapO] at ha; subst ha; simpa using hb
  | cons x a ih =>
    simp only [mapO] at ha
    split at ha
    · rename_i u hu
      split at ha
      · rename_i us hus
        simp at ha; subst ha
        simp [mapO,hu,ih hus]
      · cases ha
    · cases ha
theorem frzV_mid {fz:List Nat} {m:Hm} {pre post:List V} {v u:V} (h:∀ k,snap (k+1) (only fz m) v=some u) (h1:closedL pre=true) (h2:closedL post=true):frzV fz m (.agg (pre++v::post))=.agg (pre++u::post):=by
  have hp:mapO (snap 3 (only fz m)) (pre++v::post)=some (pre++u::post):=mapO_app (mapO_closed h1) (by simp [mapO,h 2,mapO_closed h2])
  simp only [frzV,snap_agg hp]
theorem frl_get {fz ids:List Nat} {m:Hm} {id sz:Nat} {l:List V} (h:m id=some (.arr sz l)) (hn:id∉fz) (hi:id∉ids):loH ids (frzH fz m) id=some (.arr sz (l.map (frzV fz m))):=by
  simp [loH,hi,frzH,hn,h,frzO]
theorem frl_lo {fz ids:List Nat} {m:Hm} {id sz:Nat} {l:List V} (h:m id=some (.arr sz l)) (hn:id∉fz) (hi:id∈ids):loH ids (frzH fz m) id=some (.arr sz (loL (l.map (frzV fz m)))):=by
  simp [loH,hi,frzH,hn,h,frzO,loO]
theorem map_frz {fz:List Nat} {m:Hm} {l:List V} (h:closedL l=true):l.map (frzV fz m)=l:=by
  rw [closedL_iff] at h
  exact (List.map_congr_left fun v hv => frz_c (h v hv)).trans (List.map_id _)
theorem frl_cl {fz ids:List Nat} {m:Hm} {id sz:Nat} {l:List V} (h:m id=some (.arr sz l)) (hc:closedL l=true) (hn:id∉fz) (hi:id∉ids):loH ids (frzH fz m) id=some (.arr sz l):=by
  rw [frl_get h hn hi,map_frz hc]
def V.flat:V→Bool
  | .bool _ | .int _ _ | .str _ => true
  | _ => false
theorem R.flat {g g':G} {v:V} {x:Value} (h:v.flat=true) (r:R g v x):R g' v x:=by
  cases v<;>simp [V.flat] at h<;>simpa only [R] using r
theorem RS.still {g:G} {m:Hm} {w w':World} (h:RS g m w) (hz:w.heap.size≤w'.heap.size) (hb:∀ b,b < w.heap.size→w'.heap[b]?=w.heap[b]?):RS g m w' :=
  ⟨fun b cs k => by
    obtain ⟨e,fr,h1⟩:=h.fro b cs k
    exact ⟨e,fr,(hb b (Array.getElem?_eq_some_iff.1 h1).1).trans h1⟩,
   fun id ob k => (h.live id ob k).keep (.refl g) fun b s n hb' => ⟨hb b ((h.live id ob k).lt hb'),(h.live id ob k).unF hb'⟩,h.inj⟩
theorem PCall.snapA {P:Program} {f:Nat} {us vs:List V} {r:V} (h:PCall P f vs r) (hr:r.flat=true) {H:Hp} {fp:List Nat} (hv:mapO (snap 4 (only fp H.m)) us=some vs):ACall P f us H fp r [] 0:=by
  refine ⟨h.1,by simp,fun m g w xs hag _ hs hx => ?_⟩
  have e0:only fp m=only fp H.m:=by
    funext id
    simp only [only]
    split
    · rename_i hid; exact hag id hid
    · rfl
  rw [← e0] at hv
  obtain ⟨F',p1,p2,p3,p4⟩:=freezeSome hs fp
  obtain ⟨j1,_,_⟩:=mapO_RC (g:=g) (g':=⟨g.ι,F'⟩) (snap_sound (g:=g) (g':=⟨g.ι,F'⟩) (hs.only fp) p1 p4 4) hv hx
  have hs0:RS ⟨g.ι,F'⟩ (fun _ => none) w:=⟨p3.fro,by simp,by simp⟩
  refine (h.2 (fun _ => none) ⟨g.ι,F'⟩ w xs hs0 j1).mono ?_
  rintro e w' ⟨x,F2,k1,k2,k3,k4⟩
  have hb:∀ b,b < w.heap.size→w'.heap[b]?=w.heap[b]?:=fun b hb => k4.old b hb (fun ⟨_,_,_,_,q,_⟩ => by cases q)
  refine ⟨x,g,k1,R.flat hr k2,hs.still k4.size hb,fun _ _ => rfl,⟨k4.size,fun b hb' _ => hb b hb',.refl g,fun b q => .inr q,fun b cs q => .inl q,k4.os,k4.tape,k4.output⟩⟩
def snapL (m:Hm):List V→Option (List V)
  | [] => some []
  | v::vs => match snapF m v with | some u => (match snapL m vs with | some us => some (u::us) | none => none) | none => none
theorem snapL_c {m:Hm} {v u:V} {vs us:List V} (h1:snapF m v=some u) (h2:snapL m vs=some us):snapL m (v::vs)=some (u::us):=by simp [snapL,h1,h2]
theorem snapL_n {m:Hm}:snapL m []=some []:=rfl
theorem snapF_of {m:Hm} {v u:V} (h:snap 4 m v=some u):snapF m v=some u:=by simp [snapF,h]
theorem PCall.frzA {P:Program} {f:Nat} {us vs:List V} {r:V} (h:PCall P f vs r) {H:Hp} {fp:List Nat} (hv:snapL (only fp H.m) us=some vs):ACall P f us H fp r (fp.map fun i => (i,none)) 0:=by
  refine ⟨h.1,fun p hp => .inl (by obtain ⟨i,hi,rfl⟩:=List.mem_map.1 hp; exact hi),fun m g w xs hag _ hs hx => ?_⟩
  have e0:only fp m=only fp H.m:=by
    funext id
    simp only [only]
    split
    · rename_i hid; exact hag id hid
    · rfl
  rw [← e0] at hv
  obtain ⟨F',p1,p2,p3,p4⟩:=freezeSome hs fp
  have j1:∀ {us vs:List V} {xs:List Value},snapL (only fp m) us=some vs→RC g us xs→RC ⟨g.ι,F'⟩ vs xs:=by
    intro us
    induction us with
    | nil => intro vs xs hv hx; simp [snapL] at hv; subst hv; simpa only [RC] using hx
    | cons u us ih =>
      intro vs xs hv hx
      simp only [snapL] at hv
      split at hv
      · rename_i u' hu
        split at hv
        · rename_i us' hus
          simp at hv; subst hv
          simp only [RC] at hx ⊢
          obtain ⟨y,ys,rfl,r1,r2⟩:=hx
          exact ⟨y,ys,rfl,snapF_sound (g:=g) (g':=⟨g.ι,F'⟩) (hs.only fp) p1 p4 hu r1,ih hus r2⟩
        · cases hv
      · cases hv
  have hle:g.le ⟨g.ι,F'⟩:=⟨fun _ _ k => k,p1⟩
  have hsub:∀ id o,without fp m id=some o→m id=some o:=fun id o k => by simp only [without] at k; split at k; cases k; exact k
  have hxt:Ext g m w ⟨g.ι,F'⟩ (without fp m) w :=
    ⟨Nat.le_refl _,fun _ _ _ => rfl,hle,fun b ⟨id,o,s,n,k1,k2⟩ => .inr ⟨id,o,s,n,hsub _ _ k1,k2⟩,fun b cs k => (p2 b cs k).imp (fun h => h) .inr,rfl,rfl,rfl⟩
  have hm:appd (fp.map fun i => (i,none)) m=without fp m:=by
    have:∀ (fp:List Nat) (m:Hm),appd (fp.map fun i => (i,none)) m=without fp m:=by
      intro fp
      induction fp with
      | nil => intro m; funext i; simp [appd,without]
      | cons a fp ih =>
        intro m
        simp only [List.map_cons,appd]
        rw [ih]
        funext i
        simp only [without,upd,List.mem_cons]
        by_cases h1:i∈fp<;>by_cases h2:i=a<;>simp [h1,h2]
    exact this fp m
  refine (h.2 (without fp m) ⟨g.ι,F'⟩ w xs p3 (j1 hv hx)).mono ?_
  rintro e w' ⟨x,F2,k1,k2,k3,k4⟩
  rw [hm]
  exact ⟨x,⟨g.ι,F2⟩,k1,k2,k3,fun _ _ => rfl,hxt.trans k4⟩
def withS (r:Rn) (i:Nat) (s:Stt):Rn:={ r with states:=r.states.set i s }
def canL (ss:List Stt):Nat→List Stt
  | 0 => ss
  | k+1 => match ss[k]? with | some s => (canL ss k).set k (tcancelS s) | none => canL ss k
def mendL (ts:List Task) (ss:List Stt):Nat→List Stt
  | 0 => ss
  | k+1 => match ss[k]? with | some s => if readyS ts (mendL ts ss k) k=true then (mendL ts ss k).set k (treadyS s) else mendL ts ss k | none => mendL ts ss k
theorem canL_len (ss:List Stt):∀ k,(canL ss k).length=ss.length
  | 0 => rfl
  | k+1 => by
    simp only [canL]; split
    · rw [List.length_set,canL_len ss k]
    · exact canL_len ss k
theorem mendL_len (ts:List Task) (ss:List Stt):∀ k,(mendL ts ss k).length=ss.length
  | 0 => rfl
  | k+1 => by
    simp only [mendL]; split
    · split
      · rw [List.length_set,mendL_len ts ss k]
      · exact mendL_len ts ss k
    · exact mendL_len ts ss k
theorem canL_succ {ss:List Stt} {k:Nat} (h:k < ss.length):canL ss (k+1)=(canL ss k).set k (tcancelS ss[k]):=by simp [canL,h]
theorem mendL_succ {ts:List Task} {ss:List Stt} {k:Nat} (h:k < ss.length):mendL ts ss (k+1)=if readyS ts (mendL ts ss k) k=true then (mendL ts ss k).set k (treadyS ss[k]) else mendL ts ss k:=by simp [mendL,h]
def allS (l:List Stt):Bool:=l.all fun s => decide (s.is=3)
def mendS (r:Rn):Rn :=
  if hasS r.states 4=true then { r with is:=2,states:=canL r.states r.states.length }
  else { r with is:=if allS (mendL r.dag.tasks r.states r.states.length)=true then 1 else r.is,states:=mendL r.dag.tasks r.states r.states.length }
theorem clone_states:CloneOK Tryz.prog 206 5 48:=clone_gen ena206 (by decide)
def ownV (r:Rn) (id n:Nat):V:=.agg [.str r.key,.str r.dag.name,tasksV r.dag.tasks,.int .i64 r.is,.sl id 0 n]
theorem snap_run {m:Hm} {id:Nat} {r:Rn} {ss:List Stt} (h:m id=some (.arr 5 (mv sttV ss))):snap 4 (only [id] m) (ownV r id ss.length)=some (rnV { r with states:=ss }):=by
  have hsn:=snap_sl (n:=2) (m:=only [id] m) (id:=id) (sz:=5) (len:=ss.length) (l:=mv sttV ss) (by simp [only,h]) (mv_closed sttV_closed) (by rw [mv_len])
  exact snap_agg (mapO_app (a:=[.str r.key,.str r.dag.name,tasksV r.dag.tasks,.int .i64 r.is]) (b:=[.sl id 0 ss.length]) (mapO_closed (by simp [closedL,V.closed,tasksV_closed])) (by simp [mapO,hsn,sttsV]))
theorem count_own {H:Hp} {id:Nat} {r:Rn} {ss:List Stt} (ks:List Int) (st:St) (h:H.m id=some (.arr 5 (mv sttV ss))) (hk:ks.length≤1000000) (hr:ss.length≤1000000) :
    ACall Tryz.prog 128 [ownV r id ss.length,.fsl st 1 (vI ks)] H [id] (.int .i64 (cntS ks ss:Nat)) [] 0 :=
  (run_count { r with states:=ss } ks st hk hr).snapA rfl (by simp [mapO,snap_run h,snap_cl,V.closed,vI_closed])
theorem ready_own {H:Hp} {id:Nat} {r:Rn} {ss:List Stt} (i:Nat) (h:H.m id=some (.arr 5 (mv sttV ss))) (hi:i < r.dag.tasks.length) (hr:ss.length≤1000000) (hin:inR r.dag.tasks ss.length) (hnl:∀ t∈r.dag.tasks,t.needs.length≤1000000) :
    ACall Tryz.prog 127 [ownV r id ss.length,.int .i64 i] H [id] (.bool (readyS r.dag.tasks ss i)) [] 0 :=
  (run_ready { r with states:=ss } i hi hr hin hnl).snapA rfl (by have e:snap 4 (only [id] H.m) (.int .i64 (i:Int))=some (.int .i64 (i:Int)):=snap_cl rfl; simp [mapO,snap_run h,e])
theorem ready_own' {H:Hp} {id n:Nat} {r:Rn} {ss:List Stt} (i:Nat) (hn:ss.length=n) (h:H.m id=some (.arr 5 (mv sttV ss))) (hi:i < r.dag.tasks.length) (hr:ss.length≤1000000) (hin:inR r.dag.tasks ss.length) (hnl:∀ t∈r.dag.tasks,t.needs.length≤1000000) :
    ACall Tryz.prog 127 [ownV r id n,.int .i64 i] H [id] (.bool (readyS r.dag.tasks ss i)) [] 0:=by subst hn; exact ready_own i h hi hr hin hnl
theorem count_own' {H:Hp} {id n:Nat} {r:Rn} {ss:List Stt} (ks:List Int) (st:St) (hn:ss.length=n) (h:H.m id=some (.arr 5 (mv sttV ss))) (hk:ks.length≤1000000) (hr:ss.length≤1000000) :
    ACall Tryz.prog 128 [ownV r id n,.fsl st 1 (vI ks)] H [id] (.int .i64 (cntS ks ss:Nat)) [] 0:=by subst hn; exact count_own ks st h hk hr
theorem all_cnt (l:List Stt):cntS [3] l=l.length↔allS l=true:=by rw [cntS_all,allS,List.all_eq_true]; simp
theorem canL_get (ss:List Stt):∀ (k i:Nat),k≤i→(canL ss k)[i]?=ss[i]?
  | 0,i,_ => rfl
  | k+1,i,h => by
    simp only [canL]; split
    · rw [List.getElem?_set_ne (by omega),canL_get ss k i (by omega)]
    · exact canL_get ss k i (by omega)
theorem mendL_get (ts:List Task) (ss:List Stt):∀ (k i:Nat),k≤i→(mendL ts ss k)[i]?=ss[i]?
  | 0,i,_ => rfl
  | k+1,i,h => by
    simp only [mendL]; split
    · split
      · rw [List.getElem?_set_ne (by omega),mendL_get ts ss k i (by omega)]
      · exact mendL_get ts ss k i (by omega)
    · exact mendL_get ts ss k i (by omega)
theorem cnt_has (l:List Stt):0 < cntS [4] l↔hasS l 4=true:=by
  have:cntS [4] l=0↔hasS l 4=false:=by rw [cntS_zero,hasS_not]; simp
  cases e:hasS l 4 with
  | true => rw [e] at this; simp at this; simp; omega
  | false => rw [e] at this; simp at this; simp [this]
theorem setC_stt (a b:Stt):setC (some 5) 0 (sttV a) (sttV b)=some (sttV b):=rfl
theorem run_mend (r:Rn) (hr:r.states.length≤1000000) (h1:0 < r.states.length) (hlen:r.states.length=r.dag.tasks.length) (hin:inR r.dag.tasks r.states.length) (hnl:∀ t∈r.dag.tasks,t.needs.length≤1000000) :
    PCall Tryz.prog 200 [rnV r] (rnV (mendS r)):=by
  refine en200 (by simp) (by simp [closedL,rnV_closed]) ?_
  simp (maxSteps:=1000000) (disch:=omega) only [rg,gD,simprocAttr,c200,rnV,sttsV]
  refine clone_states.call (mv_closed sttV_closed) (by rw [mv_len]; omega) fun v ds k hv hlow => ?_
  rcases hv with ⟨st,_,h0⟩ | ⟨id,i1,rfl,i3⟩
  · rw [← mv_len (f:=sttV),h0] at h1; simp at h1
  have z0:=hlow 0 (by show 0 < 2; omega)
  have z1:=hlow 1 (by show 1 < 2; omega)
  simp only at z0 z1 i1 i3
  rw [x_nx]
  refine ⟨by simp only [compat_nil], ?_⟩
  simp only []
  generalize appd ds _=m5 at z0 z1 i3 ⊢
  simp only [upd_eq,upd_ne (show (0:Nat)≠1 by omega)] at z0 z1
  have d0:id≠0:=by
    rintro rfl
    rw [z0] at i3
    obtain ⟨s0,ss,hss⟩:=List.exists_cons_of_length_pos h1
    rw [hss] at i3; simp [mv,sttV] at i3
  have d1:id≠1:=by
    rintro rfl
    rw [z1] at i3
    obtain ⟨s0,ss,hss⟩:=List.exists_cons_of_length_pos h1
    rw [hss] at i3; simp [mv,sttV] at i3
  have hc4:=run_count r [4] .full (by simp) hr
  simp (maxSteps:=1000000) (disch:=omega) only [rg,gD,simprocAttr,z0,mv_len]
  refine ⟨_,_,_,_,count_own (r:=r) (ss:=r.states) [4] .full (by simp (disch:=omega) only [upd_eq,upd_ne,wo_0,wo_1,wo_2,i3]) (by simp) hr, ?_⟩
  have hch:=cnt_has r.states
  by_cases c4:0 < cntS [4] r.states
  · simp (maxSteps:=1000000) (disch:=omega) only [rg,gD,simprocAttr,show (0:Int) < (cntS [4] r.states:Nat) by omega]
    refine x_it r.states.length (fun j σ H => 2+k≤H.n∧H.m 0=some (.arr 5 [ownV r id r.states.length])∧H.m 1=some (.arr 5 [V.agg [V.str [],V.str [],V.fsl .nil 4 [],V.int .i64 0,V.fsl .nil 5 []]])∧H.m id=some (.arr 5 (mv sttV (canL r.states j))) ∧
      σ=[(1,.ptr 0 0 0),(2,.ptr 1 0 0),(16,.sl id 0 r.states.length),(17,.int .i64 (r.states.length:Int)),(18,.int .i64 (j:Int))]) ⟨Nat.le_refl _,(by simp (disch:=omega) only [upd_eq,upd_ne,wo_0,wo_1,wo_2,ownV]),(by simp (disch:=omega) only [upd_eq,upd_ne,wo_0,wo_1,wo_2,z1]),(by simp (disch:=omega) only [upd_eq,upd_ne,wo_0,wo_1,wo_2,i3,canL]),rfl⟩ ?_
    rintro T j σ ⟨n2,m2⟩ hjj ⟨hn2,f0,f1,f3,rfl⟩ hN hX hR
    simp only at hn2 f0 f1 f3
    unfold ownV at f0
    by_cases hj:j < r.states.length
    · have hjl:j < (canL r.states j).length:=by rw [canL_len]; exact hj
      have hget:(canL r.states j)[j]=r.states[j]:=by
        have:=canL_get r.states j j (Nat.le_refl j)
        rw [List.getElem?_eq_getElem hjl,List.getElem?_eq_getElem hj] at this
        exact Option.some.inj this
      have hs:=canL_succ hj
      have hid:id≠n2:=by omega
      have hcl:=canL_len r.states j
      simp (maxSteps:=1000000) (disch:=omega) only [rg,gD,simprocAttr,show (j:Int) < r.states.length by omega,f0,f3,mv_len,mv_get hjl,hget,sttV]
      refine ⟨_,task_cancel r.states[j], ?_⟩
      simp (maxSteps:=1000000) (disch:=omega) only [rg,gD,simprocAttr,f3,show (j:Int) < r.states.length by omega,mv_get hjl,setC_stt,mv_set]
      refine hN _ _ hj ⟨?_, ?_, ?_, ?_,rfl⟩
      · show 2+k≤n2+1; omega
      · exact (by simp (disch:=omega) only [upd_eq,upd_ne,wo_0,wo_1,wo_2,f0,ownV])
      · exact (by simp (disch:=omega) only [upd_eq,upd_ne,wo_0,wo_1,wo_2,f1])
      · rw [hs]; exact (by simp (disch:=omega) only [upd_eq,upd_ne,wo_0,wo_1,wo_2])
    · obtain rfl:j=r.states.length:=by omega
      simp (maxSteps:=1000000) (disch:=omega) only [rg,gD,simprocAttr,Int.lt_irrefl]
      refine hX _ _ _ ?_
      simp (maxSteps:=1000000) (disch:=omega) only [rg,gD,simprocAttr]
      refine x_frz0 ?_
      simp (maxSteps:=1000000) (disch:=omega) only [rg,gD,simprocAttr,f0,f1]
      have hcl:=canL_len r.states r.states.length
      have hres:mendS r={ r with is:=2,states:=canL r.states r.states.length }:=by rw [mendS,if_pos (hch.1 c4)]
      rw [hres]
      generalize canL r.states r.states.length=L at f3 hcl
      have hsn:=snap_sl (n:=2) (m:=upd (upd m2 0 (some (.arr 5 [V.agg [V.str r.key,V.str r.dag.name,tasksV r.dag.tasks,V.int .i64 2,V.sl id 0 r.states.length]]))) 1 (some (.arr 5 [V.agg [V.str r.key,V.str r.dag.name,tasksV r.dag.tasks,V.int .i64 2,V.sl id 0 r.states.length]]))) (id:=id) (sz:=5) (len:=r.states.length) (l:=mv sttV L) (by simp (disch:=omega) only [upd_eq,upd_ne,wo_0,wo_1,wo_2,f3]) (mv_closed sttV_closed) (by rw [mv_len,hcl])
      refine fin_y (v:=.agg [.str r.key,.str r.dag.name,tasksV r.dag.tasks,.int .i64 2,.fsl .loose 5 (mv sttV L)]) (l:=[.agg [.str r.key,.str r.dag.name,tasksV r.dag.tasks,.int .i64 2,.sl id 0 r.states.length]]) rfl ?_ (by simp [lo,loL,tasksV_lo,mv_lo sttV_lo])
      exact snap_agg (mapO_app (a:=[.str r.key,.str r.dag.name,tasksV r.dag.tasks,.int .i64 2]) (b:=[.sl id 0 r.states.length]) (mapO_closed (by simp [closedL,V.closed,tasksV_closed])) (by simp [mapO,hsn]))
  · simp (maxSteps:=1000000) (disch:=omega) only [rg,gD,simprocAttr,show ¬ (0:Int) < (cntS [4] r.states:Nat) by omega]
    refine x_frz0 ?_
    simp (maxSteps:=1000000) (disch:=omega) only [rg,gD,simprocAttr,z0,mv_len]
    refine x_it r.states.length (fun j σ H => 2+k≤H.n∧H.m 0=some (.arr 5 [ownV r id r.states.length])∧H.m 1=some (.arr 5 [V.agg [V.str [],V.str [],V.fsl .nil 4 [],V.int .i64 0,V.fsl .nil 5 []]])∧H.m id=some (.arr 5 (mv sttV (mendL r.dag.tasks r.states j))) ∧
      σ=[(1,.ptr 0 0 0),(2,.ptr 1 0 0),(33,.sl id 0 r.states.length),(34,.int .i64 (r.states.length:Int)),(35,.int .i64 (j:Int))]) ⟨Nat.le_refl _,(by simp (disch:=omega) only [upd_eq,upd_ne,wo_0,wo_1,wo_2,ownV]),(by simp (disch:=omega) only [upd_eq,upd_ne,wo_0,wo_1,wo_2,z1]),(by simp (disch:=omega) only [upd_eq,upd_ne,wo_0,wo_1,wo_2,i3,mendL]),rfl⟩ ?_
    rintro T j σ ⟨n2,m2⟩ hjj ⟨hn2,f0,f1,f3,rfl⟩ hN hX hR
    simp only at hn2 f0 f1 f3
    unfold ownV at f0
    have hml:=mendL_len r.dag.tasks r.states j
    by_cases hj:j < r.states.length
    · have hjl:j < (mendL r.dag.tasks r.states j).length:=by rw [hml]; exact hj
      have hget:(mendL r.dag.tasks r.states j)[j]=r.states[j]:=by
        have:=mendL_get r.dag.tasks r.states j j (Nat.le_refl j)
        rw [List.getElem?_eq_getElem hjl,List.getElem?_eq_getElem hj] at this
        exact Option.some.inj this
      have hs:=mendL_succ (ts:=r.dag.tasks) hj
      have hid:id≠n2:=by omega
      simp (maxSteps:=1000000) (disch:=omega) only [rg,gD,simprocAttr,show (j:Int) < r.states.length by omega,f0,f3,mv_len,mv_get hjl,hget,sttV]
      refine ⟨_,_,_,_,ready_own' (r:=r) (ss:=mendL r.dag.tasks r.states j) j hml (by simp (disch:=omega) only [upd_eq,upd_ne,wo_0,wo_1,wo_2,f3]) (by omega) (by omega) (by rw [hml]; exact hin) hnl, ?_⟩
      cases hrd:readyS r.dag.tasks (mendL r.dag.tasks r.states j) j with
      | true =>
        rw [if_pos hrd] at hs
        simp (maxSteps:=1000000) (disch:=omega) only [rg,gD,simprocAttr,f0,sttV]
        refine ⟨_,task_ready r.states[j], ?_⟩
        simp (maxSteps:=1000000) (disch:=omega) only [rg,gD,simprocAttr,f3,show (j:Int) < r.states.length by omega,mv_get hjl,setC_stt,mv_set,mv_len,hml]
        refine hN _ _ hj ⟨?_, ?_, ?_, ?_,rfl⟩
        · show 2+k≤n2+1; omega
        · exact (by simp (disch:=omega) only [upd_eq,upd_ne,wo_0,wo_1,wo_2,f0,ownV])
        · exact (by simp (disch:=omega) only [upd_eq,upd_ne,wo_0,wo_1,wo_2,f1])
        · rw [hs]; exact (by simp (disch:=omega) only [upd_eq,upd_ne,wo_0,wo_1,wo_2])
      | false =>
        rw [if_neg (by rw [hrd]; simp)] at hs
        simp (maxSteps:=1000000) (disch:=omega) only [rg,gD,simprocAttr]
        refine hN _ _ hj ⟨?_, ?_, ?_, ?_,rfl⟩
        · show 2+k≤n2+1; omega
        · exact (by simp (disch:=omega) only [upd_eq,upd_ne,wo_0,wo_1,wo_2,f0,ownV])
        · exact (by simp (disch:=omega) only [upd_eq,upd_ne,wo_0,wo_1,wo_2,f1])
        · rw [hs]; exact (by simp (disch:=omega) only [upd_eq,upd_ne,wo_0,wo_1,wo_2,f3])
    · obtain rfl:j=r.states.length:=by omega
      simp (maxSteps:=1000000) (disch:=omega) only [rg,gD,simprocAttr,Int.lt_irrefl]
      refine hX _ _ _ ?_
      simp (maxSteps:=1000000) (disch:=omega) only [rg,gD,simprocAttr]
      refine x_frz0 ?_
      have hres:mendS r={ r with is:=if allS (mendL r.dag.tasks r.states r.states.length)=true then 1 else r.is,states:=mendL r.dag.tasks r.states r.states.length }:=by
        rw [mendS,if_neg (fun h => c4 (hch.2 h))]
      rw [hres]
      have hac:=all_cnt (mendL r.dag.tasks r.states r.states.length)
      generalize mendL r.dag.tasks r.states r.states.length=L at f3 hml hac
      simp (maxSteps:=1000000) (disch:=omega) only [rg,gD,simprocAttr,f0]
      refine ⟨_,_,_,_,count_own' (r:=r) (ss:=L) [3] .full hml f3 (by simp) (by omega), ?_⟩
      cases ha:allS L with
      | true =>
        have hc:=hac.2 ha
        simp (maxSteps:=1000000) (disch:=omega) only [rg,gD,simprocAttr,f0,f1,show ((cntS [3] L:Nat):Int)=r.states.length by omega]
        refine ⟨by simp [compat,disj,nthL], ?_⟩
        have hsn:=fun (m:Hm) (hm:m id=some (.arr 5 (mv sttV L))) => snap_sl (n:=2) (m:=m) (id:=id) (sz:=5) (len:=r.states.length) (l:=mv sttV L) hm (mv_closed sttV_closed) (by rw [mv_len,hml])
        refine fin_y (v:=.agg [.str r.key,.str r.dag.name,tasksV r.dag.tasks,.int .i64 1,.fsl .loose 5 (mv sttV L)]) (l:=[V.agg [V.str r.key,V.str r.dag.name,tasksV r.dag.tasks,V.int .i64 1,V.sl id 0 r.states.length]]) rfl ?_ (by simp [lo,loL,tasksV_lo,mv_lo sttV_lo])
        exact snap_agg (mapO_app (a:=[.str r.key,.str r.dag.name,tasksV r.dag.tasks,.int .i64 1]) (b:=[.sl id 0 r.states.length]) (mapO_closed (by simp [closedL,V.closed,tasksV_closed])) (by simp only [mapO]; rw [hsn]; exact (by simp (disch:=omega) only [upd_eq,upd_ne,wo_0,wo_1,wo_2,f3])))
      | false =>
        have hc:cntS [3] L≠L.length:=fun h => by rw [hac.1 h] at ha; cases ha
        simp (maxSteps:=1000000) (disch:=omega) only [rg,gD,simprocAttr,f0,f1,show ¬ ((cntS [3] L:Nat):Int)=r.states.length by omega]
        refine ⟨by simp [compat,disj,nthL], ?_⟩
        have hsn:=fun (m:Hm) (hm:m id=some (.arr 5 (mv sttV L))) => snap_sl (n:=2) (m:=m) (id:=id) (sz:=5) (len:=r.states.length) (l:=mv sttV L) hm (mv_closed sttV_closed) (by rw [mv_len,hml])
        refine fin_y (v:=.agg [.str r.key,.str r.dag.name,tasksV r.dag.tasks,.int .i64 r.is,.fsl .loose 5 (mv sttV L)]) (l:=[V.agg [V.str r.key,V.str r.dag.name,tasksV r.dag.tasks,V.int .i64 r.is,V.sl id 0 r.states.length]]) rfl ?_ (by simp [lo,loL,tasksV_lo,mv_lo sttV_lo])
        exact snap_agg (mapO_app (a:=[.str r.key,.str r.dag.name,tasksV r.dag.tasks,.int .i64 r.is]) (b:=[.sl id 0 r.states.length]) (mapO_closed (by simp [closedL,V.closed,tasksV_closed])) (by simp only [mapO]; rw [hsn]; exact (by simp (disch:=omega) only [upd_eq,upd_ne,wo_0,wo_1,wo_2,f3])))
def heldN:List Stt→Nat
  | [] => 0
  | s::l => (if s.is=2 then 1 else 0)+heldN l
theorem heldN_le:∀ (l:List Stt),heldN l≤l.length
  | [] => Nat.le_refl _
  | s::l => by have:=heldN_le l; simp only [heldN,List.length_cons]; split<;>omega
theorem heldN_set (s:Stt):∀ (l:List Stt) (i:Nat) (h:i < l.length),heldN (l.set i s)+(if l[i].is=2 then 1 else 0)=heldN l+(if s.is=2 then 1 else 0)
  | [],i,h => by simp at h
  | a::l,0,h => by simp only [List.set_cons_zero,heldN,List.getElem_cons_zero]; omega
  | a::l,i+1,h => by
    have:=heldN_set s l i (by simpa using h)
    simp only [List.set_cons_succ,heldN,List.getElem_cons_succ]; omega
theorem heldN_pos {l:List Stt} {i:Nat} (h:i < l.length) (e:l[i].is=2):0 < heldN l:=by
  have:=heldN_set zS l i h
  rw [if_pos e] at this
  have z:¬ zS.is=2:=by decide
  rw [if_neg z] at this; omega
structure Shp (r r':Rn):Prop where
  key:r'.key=r.key
  dag:r'.dag=r.dag
  len:r'.states.length=r.states.length
theorem Shp.refl (r:Rn):Shp r r:=⟨rfl,rfl,rfl⟩
theorem Shp.trans {a b c:Rn} (h:Shp a b) (k:Shp b c):Shp a c:=⟨k.1.trans h.1,k.2.trans h.2,k.3.trans h.3⟩
theorem mendS_shp (r:Rn):Shp r (mendS r):=by
  unfold mendS; split
  · exact ⟨rfl,rfl,canL_len _ _⟩
  · exact ⟨rfl,rfl,mendL_len _ _ _⟩
theorem withS_shp (r:Rn) (i:Nat) (s:Stt):Shp r (withS r i s):=⟨rfl,rfl,by simp [withS]⟩
theorem canL_held (ss:List Stt):∀ k,k≤ss.length→heldN (canL ss k)≤heldN ss
  | 0,_ => Nat.le_refl _
  | k+1,h => by
    have hk:k < ss.length:=h
    have ih:=canL_held ss k (by omega)
    have hl:k < (canL ss k).length:=by rw [canL_len]; exact hk
    have:=heldN_set (tcancelS ss[k]) (canL ss k) k hl
    rw [canL_succ hk]
    have h5:¬ (tcancelS ss[k]).is=2:=by
      unfold tcancelS; split
      · simp
      · rename_i hc; intro e; exact hc (.inr (.inr e))
    rw [if_neg h5] at this; omega
theorem mendL_held (ts:List Task) (ss:List Stt):∀ k,k≤ss.length→heldN (mendL ts ss k)=heldN ss
  | 0,_ => rfl
  | k+1,h => by
    have hk:k < ss.length:=h
    have ih:=mendL_held ts ss k (by omega)
    have hl:k < (mendL ts ss k).length:=by rw [mendL_len]; exact hk
    have:=heldN_set (treadyS ss[k]) (mendL ts ss k) k hl
    have hg:(mendL ts ss k)[k]=ss[k]:=by
      have:=mendL_get ts ss k k (Nat.le_refl k)
      rw [List.getElem?_eq_getElem hl,List.getElem?_eq_getElem hk] at this
      exact Option.some.inj this
    rw [mendL_succ hk]; split
    · rw [hg] at this
      have e:(treadyS ss[k]).is=2↔ss[k].is=2:=by unfold treadyS; split<;>simp_all
      simp only [e] at this; omega
    · exact ih
theorem mendS_held (r:Rn):heldN (mendS r).states≤heldN r.states:=by
  unfold mendS; split
  · exact canL_held _ _ (Nat.le_refl _)
  · exact Nat.le_of_eq (mendL_held _ _ _ (Nat.le_refl _))
theorem overS_spec (u:Int) (l:List Stt):∀ k,k≤l.length→0≤overS u l k→∃ h:(overS u l k).toNat < l.length,l[(overS u l k).toNat].is=2∧l[(overS u l k).toNat].due≤u
  | 0,_,h => by simp [overS] at h
  | k+1,hk,h => by
    have hk':k < l.length:=hk
    rw [overS_succ hk'] at h ⊢
    by_cases c:l[k].is=2∧l[k].due≤u∧(overS u l k < 0∨l[k].due < dueAt l (overS u l k))
    · simp only [if_pos c]
      exact ⟨by simpa using hk',by simpa using ⟨c.1,c.2.1⟩⟩
    · simp only [if_neg c] at h ⊢
      exact overS_spec u l k (by omega) h
def oneS (now:Int) (r:Rn):Rn :=
  if overS (untilS [now]) r.states r.states.length < 0 then r
  else match r.dag.tasks[(overS (untilS [now]) r.states r.states.length).toNat]?,r.states[(overS (untilS [now]) r.states r.states.length).toNat]? with
    | some t,some s => mendS (withS r (overS (untilS [now]) r.states r.states.length).toNat (texpireS t s now))
    | _,_ => r
def rndS (now:Int) (r:Rn):Nat→Rn
  | 0 => r
  | k+1 => oneS now (rndS now r k)
def settleS (now:Int) (r:Rn):Rn:=rndS now r r.states.length
theorem oneS_none {now:Int} {r:Rn} (h:overS (untilS [now]) r.states r.states.length < 0):oneS now r=r:=by simp [oneS,h]
theorem oneS_some {now:Int} {r:Rn} {i:Nat} (h:overS (untilS [now]) r.states r.states.length=i) (h1:i < r.dag.tasks.length) (h2:i < r.states.length) :
    oneS now r=mendS (withS r i (texpireS r.dag.tasks[i] r.states[i] now)):=by
  unfold oneS
  rw [if_neg (by omega),h]; simp [h1,h2]
theorem oneS_shp (now:Int) (r:Rn):Shp r (oneS now r):=by
  unfold oneS; split
  · exact .refl r
  · split
    · exact (withS_shp r _ _).trans (mendS_shp _)
    · exact .refl r
theorem rndS_shp (now:Int) (r:Rn):∀ k,Shp r (rndS now r k)
  | 0 => .refl r
  | k+1 => (rndS_shp now r k).trans (oneS_shp now _)
theorem settleS_shp (now:Int) (r:Rn):Shp r (settleS now r):=rndS_shp now r _
theorem texpire_not2 {t:Task} {s:Stt} {now:Int} (h:s.is=2) (h2:s.due≤untilS [now]):(texpireS t s now).is≠2:=by
  unfold texpireS
  rw [if_neg (by omega)]
  unfold tfailS
  rw [if_neg (by omega)]
  split<;>simp
theorem oneS_held {now:Int} {r:Rn} (hlen:r.states.length=r.dag.tasks.length) (h:¬ overS (untilS [now]) r.states r.states.length < 0):heldN (oneS now r).states < heldN r.states:=by
  obtain ⟨hi,e1,e2⟩:=overS_spec (untilS [now]) r.states r.states.length (Nat.le_refl _) (by omega)
  have ho:overS (untilS [now]) r.states r.states.length=((overS (untilS [now]) r.states r.states.length).toNat:Nat):=by omega
  generalize (overS (untilS [now]) r.states r.states.length).toNat=i at hi e1 e2 ho
  rw [oneS_some ho (by omega) hi]
  have h1:=mendS_held (withS r i (texpireS r.dag.tasks[i] r.states[i] now))
  have h2:=heldN_set (texpireS r.dag.tasks[i] r.states[i] now) r.states i hi
  rw [if_pos e1,if_neg (texpire_not2 e1 e2)] at h2
  simp only [withS] at h1 ⊢
  omega
theorem rndS_over {now:Int} {r:Rn} (hlen:r.states.length=r.dag.tasks.length):∀ k,overS (untilS [now]) (rndS now r k).states (rndS now r k).states.length < 0∨heldN (rndS now r k).states+k≤heldN r.states
  | 0 => .inr (Nat.le_refl _)
  | k+1 => by
    have hs:=rndS_shp now r k
    by_cases h:overS (untilS [now]) (rndS now r k).states (rndS now r k).states.length < 0
    · left; rw [rndS,oneS_none h]; exact h
    · have h1:=oneS_held (r:=rndS now r k) (by rw [hs.len,hs.dag]; exact hlen) h
      rcases rndS_over hlen k with h2 | h2
      · exact absurd h2 h
      · right; rw [rndS]; omega
theorem round_lt {now:Int} {r:Rn} (hlen:r.states.length=r.dag.tasks.length) {k:Nat} (h:¬ overS (untilS [now]) (rndS now r k).states (rndS now r k).states.length < 0):k < r.states.length:=by
  rcases rndS_over (now:=now) hlen k with h1 | h1
  · exact absurd h1 h
  · have hs:=rndS_shp now r k
    obtain ⟨hi,e1,_⟩:=overS_spec (untilS [now]) (rndS now r k).states _ (Nat.le_refl _) (by omega)
    have:=heldN_pos hi e1
    have:=heldN_le r.states
    omega
theorem rndS_add {now:Int} {r:Rn} {k:Nat} (h:overS (untilS [now]) (rndS now r k).states (rndS now r k).states.length < 0):∀ j,rndS now r (k+j)=rndS now r k
  | 0 => rfl
  | j+1 => by
    have:=rndS_add h j
    rw [show k+(j+1)=k+j+1 by omega,rndS,this,oneS_none h]
theorem round_end {now:Int} {r:Rn} {k:Nat} (h:overS (untilS [now]) (rndS now r k).states (rndS now r k).states.length < 0) (hk:k≤r.states.length):rndS now r k=settleS now r:=by
  have:=rndS_add h (r.states.length - k)
  rw [show k+(r.states.length - k)=r.states.length by omega] at this
  exact this.symm
def c163:C :=
  (.seq
 (.reg false [p (.box 5 (.v 0)),
 p (.alloc 5 (.agg [.str [],.str [],.fsl .nil 4 [],.int .i64 0,.fsl .nil 5 []])),
 p (.mov (.k (.int .i64 0)))] [(1,.v 1),(2,.r 2),(4,.r 1)])
 (.seq
 (.block 0
 (.seq
 (.reg false [p (.load (some 5) (.v 2)),
 p (.call true (.k (.fn 57 [] [])) [.r 0]),
 p (.un .not (.r 0)),
 p (.mov (.r 0))] [(1,.v 1),(2,.v 2),(4,.v 4),(7,.r 0)])
 (.cond (.v 7)
 (.seq
 (.reg false [p (.build [.str [],.str [],.fsl .nil 4 [],.int .i64 0,.fsl .nil 5 []] []),
 p (.store (some 5) (.v 4) (.r 0)),
 p (.mov (.k (.int .i64 1)))] [(4,.v 4),(5,.r 0)])
 .ret)
 (.seq
 (.reg false [p (.fad 3 (.v 2)),
 p (.load (none) (.r 0)),
 p (.bin .neq (.r 0) (.k (.int .i64 0))),
 p (.mov (.r 0))] [(1,.v 1),(2,.v 2),(4,.v 4),(12,.r 0)])
 (.cond (.v 12)
 (.seq
 (.reg false [p (.load (some 5) (.v 2)),
 p (.store (some 5) (.v 4) (.r 0)),
 p (.mov (.k (.int .i64 0)))] [(4,.v 4),(5,.r 0)])
 .ret)
 .skip)))))
 (.seq
 (.seq
 (.reg false [p (.load (some 5) (.v 2)),
 p (.mov (.v 1)),
 p (.call true (.k (.fn 218 [] [])) [.r 1,.r 0]),
 p (.mov (.r 0))] [(1,.v 1),(2,.v 2),(4,.v 4),(6,.r 0)])
 (.block 1
 (.loop
 (.seq
 (.seq
 (.reg false [p (.mov (.v 6)),
 p (.bin .geq (.r 0) (.k (.int .i64 0)))] [(1,.v 1),(2,.v 2),(4,.v 4),(6,.v 6),(21,.r 0)])
 (.cond (.v 21)
 .skip
 (.exit 1)))
 (.seq
 (.block 2
 (.seq
 (.reg false [p (.fad 4 (.v 2)),
 p (.load (none) (.r 0)),
 p (.call false (.k (.fn 206 [] [])) [.r 0]),
 p (.fad 4 (.v 2)),
 p (.store (none) (.r 0) (.r 1))] [(1,.v 1),(2,.v 2),(4,.v 4),(6,.v 6)])
 (.seq
 (.reg true [p (.fad 4 (.v 2)),
 p (.load (none) (.r 0)),
 p (.mov (.v 6)),
 p (.fad 1 (.v 2)),
 p (.fad 1 (.r 0)),
 p (.load (none) (.r 0)),
 p (.mov (.v 6)),
 p (.iad 4 (.r 1) (.r 0)),
 p (.load (some 4) (.r 0)),
 p (.fad 4 (.v 2)),
 p (.load (none) (.r 0)),
 p (.mov (.v 6)),
 p (.iad 5 (.r 1) (.r 0)),
 p (.load (some 5) (.r 0)),
 p (.mov (.v 1)),
 p (.call true (.k (.fn 219 [] [])) [.r 6,.r 1,.r 0]),
 p (.iad 5 (.r 14) (.r 13)),
 p (.store (some 5) (.r 0) (.r 1))] [(1,.v 1),(2,.v 2),(4,.v 4)])
 (.frz
 (.reg false [p (.load (some 5) (.v 2)),
 p (.call true (.k (.fn 200 [] [])) [.r 0]),
 p (.store (some 5) (.v 2) (.r 0))] [(1,.v 1),(2,.v 2),(4,.v 4)])))))
 (.reg false [p (.load (some 5) (.v 2)),
 p (.mov (.v 1)),
 p (.call true (.k (.fn 218 [] [])) [.r 1,.r 0]),
 p (.mov (.r 0))] [(1,.v 1),(2,.v 2),(4,.v 4),(6,.r 0)]))))))
 (.frz
 (.seq
 (.reg false [p (.load (some 5) (.v 2)),
 p (.store (some 5) (.v 4) (.r 0)),
 p (.mov (.k (.int .i64 0)))] [(4,.v 4),(5,.r 0)])
 .ret)))))
def r163:List RV:=[.c 4 (some 5),.t 5]
theorem en163:EnP Tryz.prog 163 49 c163 r163:=mkEnP (by kernel_rfl) Tryz.func163 (by kernel_rfl) ⟨_,rfl,by kernel_rfl,by kernel_rfl⟩
def zR:Rn:=⟨[],⟨[],[]⟩,0,[]⟩
abbrev zRV:V:=V.agg [V.str [],V.str [],V.fsl .nil 4 [],V.int .i64 0,V.fsl .nil 5 []]
/-! What is true of all states stays true. -/
theorem canL_all {p:Stt→Prop} (hc:∀ s,p s→p (tcancelS s)) {ss:List Stt} (h:∀ s∈ss,p s):∀ k,∀ s∈canL ss k,p s
  | 0,s,hs => h s hs
  | k+1,s,hs => by
    simp only [canL] at hs; split at hs
    · rename_i u hu
      rcases List.mem_or_eq_of_mem_set hs with hs | rfl
      · exact canL_all hc h k s hs
      · exact hc _ (h _ (List.mem_of_getElem? hu))
    · exact canL_all hc h k s hs
theorem mendL_all {p:Stt→Prop} (hc:∀ s,p s→p (treadyS s)) {ts:List Task} {ss:List Stt} (h:∀ s∈ss,p s):∀ k,∀ s∈mendL ts ss k,p s
  | 0,s,hs => h s hs
  | k+1,s,hs => by
    simp only [mendL] at hs; split at hs
    · rename_i u hu
      split at hs
      · rcases List.mem_or_eq_of_mem_set hs with hs | rfl
        · exact mendL_all hc h k s hs
        · exact hc _ (h _ (List.mem_of_getElem? hu))
      · exact mendL_all hc h k s hs
    · exact mendL_all hc h k s hs
theorem mendS_all {p:Stt→Prop} (hc:∀ s,p s→p (tcancelS s)) (hr:∀ s,p s→p (treadyS s)) {r:Rn} (h:∀ s∈r.states,p s):∀ s∈(mendS r).states,p s:=by
  unfold mendS; split
  · exact canL_all hc h _
  · exact mendL_all hr h _
theorem withS_all {p:Stt→Prop} {r:Rn} {i:Nat} {u:Stt} (h:∀ s∈r.states,p s) (hu:p u):∀ s∈(withS r i u).states,p s:=by
  intro s hs
  rcases List.mem_or_eq_of_mem_set hs with hs | rfl
  · exact h s hs
  · exact hu
theorem oneS_all {p:Stt→Prop} {now:Int} (hc:∀ s,p s→p (tcancelS s)) (hr:∀ s,p s→p (treadyS s)) (he:∀ t s,p s→p (texpireS t s now)) {r:Rn} (h:∀ s∈r.states,p s):∀ s∈(oneS now r).states,p s:=by
  unfold oneS; split
  · exact h
  · split
    · rename_i t u h1 h2
      exact mendS_all hc hr (withS_all h (he t u (h u (List.mem_of_getElem? h2))))
    · exact h
theorem rndS_all {p:Stt→Prop} {now:Int} (hc:∀ s,p s→p (tcancelS s)) (hr:∀ s,p s→p (treadyS s)) (he:∀ t s,p s→p (texpireS t s now)) {r:Rn} (h:∀ s∈r.states,p s):∀ k,∀ s∈(rndS now r k).states,p s
  | 0 => h
  | k+1 => oneS_all hc hr he (rndS_all hc hr he h k)
theorem tcancel_tried (s:Stt):(tcancelS s).tried=s.tried:=by unfold tcancelS; split<;>rfl
theorem tready_tried (s:Stt):(treadyS s).tried=s.tried:=by unfold treadyS; split<;>rfl
theorem tfail_tried {t:Task} {s:Stt} {now:Int} (h:s.is=2):(tfailS t s now).1.tried=s.tried:=by
  unfold tfailS; rw [if_neg (by omega)]; split<;>rfl
theorem texpire_tried (t:Task) (s:Stt) (now:Int):(texpireS t s now).tried=s.tried:=by
  unfold texpireS; split
  · rfl
  · exact tfail_tried (by omega)
theorem rndS_tried {now N:Int} {r:Rn} (h:∀ s∈r.states,s.tried≤N) (k:Nat):∀ s∈(rndS now r k).states,s.tried≤N :=
  rndS_all (p:=fun s => s.tried≤N) (fun s hs => by rw [tcancel_tried]; exact hs) (fun s hs => by rw [tready_tried]; exact hs) (fun t s hs => by rw [texpire_tried]; exact hs) h k
/-! What a run that may be is. -/
structure RnR (r:Rn):Prop where
  name:1≤r.key.length∧r.key.length≤16
  dag:dagRightS r.dag=0
  len:r.states.length=r.dag.tasks.length
  kind:r.is=kindS r.states
  nbad:∀ i,i < r.states.length→badS r.dag.tasks r.states i=false
  lost:r.is=2→cntS [0,1,2] r.states=0
  goes:r.is=0→cntS [5] r.states=0
theorem rightS_iff (r:Rn):rightS r=true↔RnR r:=by
  unfold rightS
  simp only [Bool.and_eq_true,decide_eq_true_eq,nameS,List.all_eq_true,List.mem_range,Bool.not_eq_true',and_assoc]
  constructor
  · rintro ⟨h1,h1',h2,h3,h4,h5,h6⟩
    refine ⟨⟨h1,h1'⟩,h2,h3,h4,h5,fun e => ?_,fun e => ?_⟩
    · rw [if_pos e] at h6; simpa using h6
    · rw [if_neg (by omega),if_pos e] at h6; simpa using h6
  · rintro ⟨⟨h1,h1'⟩,h2,h3,h4,h5,h6,h7⟩
    refine ⟨h1,h1',h2,h3,h4,h5, ?_⟩
    split
    · rename_i e; simpa using h6 e
    · split
      · rename_i e; simpa using h7 e
      · rfl
theorem RnR.trs {r:Rn} (h:RnR r) {i:Nat} (hi:i < r.states.length):trightS (r.dag.tasks[i]'(by rw [← h.len]; exact hi)) r.states[i]=true:=by
  have:=h.nbad i hi
  rw [badS_get (by rw [← h.len]; exact hi) hi] at this
  simp at this
  exact this.1.1
theorem RnR.stands {r:Rn} (h:RnR r):∀ s∈r.states,standsS s=true:=by
  intro s hs
  obtain ⟨i,hi,rfl⟩:=List.mem_iff_getElem.1 hs
  have:=h.trs hi
  simp only [trightS,Bool.and_eq_true] at this
  exact this.1
theorem RnR.tried {r:Rn} (h:RnR r):∀ s∈r.states,s.tried≤8:=fun s hs => by
  have:=(standsS_iff s).1 (h.stands s hs); omega
theorem RnR.small {r:Rn} (h:RnR r):r.dag.tasks.length≤10∧r.states.length≤10∧inR r.dag.tasks r.states.length∧∀ t∈r.dag.tasks,t.needs.length≤10:=by
  obtain ⟨k1,k2,k3⟩:=dag_okn h.dag
  exact ⟨k1,by rw [h.len]; exact k1,by rw [h.len]; exact k2,k3⟩
theorem RnR.pos {r:Rn} (h:RnR r):0 < r.states.length:=by
  rw [h.len]
  have:=h.dag
  unfold dagRightS at this
  by_cases c:10 < r.dag.tasks.length
  · omega
  · rw [if_neg c] at this
    by_cases c1:r.dag.tasks.length < 1
    · rw [if_pos (.inl c1)] at this; cases this
    · omega
theorem heldN_zero {l:List Stt}:heldN l=0↔∀ s∈l,s.is≠2:=by
  induction l with
  | nil => simp [heldN]
  | cons a l ih =>
    simp only [heldN,List.mem_cons,forall_eq_or_imp,← ih]
    by_cases h:a.is=2<;>simp [h]
theorem RnR.shut {r:Rn} (h:RnR r) (hi:r.is≠0):∀ s∈r.states,s.is≠0∧s.is≠1∧s.is≠2:=by
  have hk:=h.kind
  have z012:cntS [0,1,2] r.states=0→∀ s∈r.states,s.is≠0∧s.is≠1∧s.is≠2:=fun e s hs => by
    have:=cntS_zero.1 e s hs
    simpa using this
  unfold kindS at hk
  split at hk
  · rename_i c
    intro s hs
    have:=cntS_all.1 c s hs
    simp at this; omega
  · split at hk
    · exact z012 (h.lost hk)
    · split at hk
      · rename_i c; exact z012 c
      · exact absurd hk hi
theorem settle_shut {r:Rn} {now:Int} (h:RnR r) (hi:r.is≠0):settleS now r=r:=by
  have hh:heldN r.states=0:=heldN_zero.2 fun s hs => (h.shut hi s hs).2.2
  have hov:overS (untilS [now]) r.states r.states.length < 0:=by
    rcases Int.lt_or_le (overS (untilS [now]) r.states r.states.length) 0 with c | c
    · exact c
    · obtain ⟨hlt,e1,_⟩:=overS_spec (untilS [now]) r.states r.states.length (Nat.le_refl _) c
      have:=heldN_pos hlt e1
      omega
  exact (round_end (k:=0) hov (Nat.zero_le _)).symm
theorem run_settle (r:Rn) (now:Int) (ok:RnOk r) (h:RnR r):PCall Tryz.prog 163 [rnV r,.int .i64 now] (.tup [rnV (settleS now r),.int .i64 0]):=by
  have hright:=run_right r ok
  rw [(rightS_iff r).2 h] at hright
  obtain ⟨hts,hss,hin,hnl⟩:=h.small
  have hpos:=h.pos
  have hlen:=h.len
  have htr:=h.tried
  refine en163 (by simp) (by simp [closedL,V.closed,rnV_closed]) ?_
  by_cases hi0:r.is=0
  case neg =>
    simp (maxSteps:=1000000) (disch:=omega) only [rg,gD,simprocAttr,c163,rnV,sttsV]
    refine ⟨_,hright, ?_⟩
    simp (maxSteps:=1000000) (disch:=omega) only [rg,gD,simprocAttr,eq_false hi0]
    (refine fin_x rfl ?_ ?_<;>simp [pack,lo,loL,V.closed,closedL,mv_closed,settle_shut h hi0,rnV,sttsV,tasksV_lo,mv_lo sttV_lo,tasksV_closed,sttV_closed])
  have hfi:=run_first r now (by omega)
  simp (maxSteps:=1000000) (disch:=omega) only [rg,gD,simprocAttr,c163,rnV,sttsV]
  refine ⟨_,hright, ?_⟩
  simp (maxSteps:=1000000) (disch:=omega) only [rg,gD,simprocAttr,eq_true hi0]
  refine ⟨_,hfi, ?_⟩
  simp (maxSteps:=1000000) (disch:=omega) only [rg,gD,simprocAttr]
  refine x_it r.states.length (fun k σ H => 2≤H.n∧H.m 0=some (.arr 5 [rnV (rndS now r k)])∧H.m 1=some (.arr 5 [zRV]) ∧
    σ=[(1,.int .i64 now),(2,.ptr 0 0 0),(4,.ptr 1 0 0),(6,.int .i64 (overS (untilS [now]) (rndS now r k).states (rndS now r k).states.length))]) ⟨Nat.le_refl 2,by simp [upd,rndS,rnV,sttsV],by simp [upd],rfl⟩ ?_
  rintro T k σ ⟨n,m⟩ hkk ⟨hn,e0,e1,rfl⟩ hN hX hR
  simp only at hn e0 e1
  have hs:=rndS_shp now r k
  have hsucc:rndS now r (k+1)=oneS now (rndS now r k):=rfl
  have hrl:=round_lt (now:=now) (r:=r) hlen (k:=k)
  have hre:=round_end (now:=now) (r:=r) (k:=k)
  have htk:=rndS_tried (now:=now) htr k
  by_cases c:overS (untilS [now]) (rndS now r k).states (rndS now r k).states.length < 0
  · have hre:=hre c hkk
    rw [hre] at e0 c ⊢
    generalize overS (untilS [now]) (settleS now r).states (settleS now r).states.length=o at c
    simp (maxSteps:=1000000) (disch:=omega) only [rg,gD,simprocAttr,show ¬ (0:Int)≤o by omega,ge_iff_le]
    refine hX _ _ _ ?_
    simp (maxSteps:=1000000) (disch:=omega) only [rg,gD,simprocAttr]
    refine x_frz0 ?_
    unfold rnV sttsV at e0
    simp (maxSteps:=1000000) (disch:=omega) only [rg,gD,simprocAttr,e0,e1]
    (refine fin_x rfl ?_ ?_<;>simp [pack,lo,loL,V.closed,closedL,mv_closed,rnV,sttsV,tasksV_lo,mv_lo sttV_lo,tasksV_closed,sttV_closed])
  · have hk:=hrl c
    generalize rndS now r k=q at e0 hs c hsucc htk
    obtain ⟨hk1,hk2,hk3⟩:=hs
    have hovr:=overS_range (untilS [now]) q.states q.states.length
    obtain ⟨i,hi⟩:∃ i:Nat,overS (untilS [now]) q.states q.states.length=i:=⟨(overS (untilS [now]) q.states q.states.length).toNat,by omega⟩
    have hil:i < q.states.length:=by omega
    have hit:i < q.dag.tasks.length:=by rw [hk2]; omega
    rw [oneS_some hi hit hil] at hsucc
    have hex:=task_expire q.dag.tasks[i] q.states[i] now (by have:=htk _ (List.getElem_mem hil); omega)
    have hws:=withS_shp q i (texpireS q.dag.tasks[i] q.states[i] now)
    have hme:=run_mend (withS q i (texpireS q.dag.tasks[i] q.states[i] now)) (by rw [hws.len]; omega) (by rw [hws.len]; omega) (by rw [hws.len,hws.dag,hk2]; omega) (by rw [hws.len,hws.dag,hk2,hk3]; exact hin) (fun t ht => by rw [hws.dag,hk2] at ht; have:=hnl t ht; omega)
    have hfi:=run_first (mendS (withS q i (texpireS q.dag.tasks[i] q.states[i] now))) now (by rw [(mendS_shp _).len,hws.len]; omega)
    generalize mendS (withS q i (texpireS q.dag.tasks[i] q.states[i] now))=q2 at hme hsucc hfi
    unfold rnV sttsV at e0
    simp (maxSteps:=1000000) (disch:=omega) only [rg,gD,simprocAttr,hi,show (0:Int)≤(i:Int) by omega,ge_iff_le,e0]
    refine clone_states.call (mv_closed sttV_closed) (by rw [mv_len]; omega) fun v ds kk hv hlow => ?_
    rcases hv with ⟨st,_,h0⟩ | ⟨id,i1,rfl,i3⟩
    · rw [← mv_len (f:=sttV),h0] at hil; simp at hil
    have z0:=hlow 0 (by show 0 < n; omega)
    have z1:=hlow 1 (by show 1 < n; omega)
    simp only at z0 z1 i1 i3
    rw [x_nx]
    refine ⟨by simp only [compat_nil], ?_⟩
    simp only []
    generalize appd ds _=m5 at z0 z1 i3 ⊢
    rw [e0] at z0
    rw [e1] at z1
    have d0:id≠0:=by
      rintro rfl
      rw [z0] at i3
      obtain ⟨s0,ss,hss⟩:=List.exists_cons_of_length_pos (show 0 < q.states.length by omega)
      rw [hss] at i3; simp [mv,sttV] at i3
    have d1:id≠1:=by
      rintro rfl
      rw [z1] at i3
      obtain ⟨s0,ss,hss⟩:=List.exists_cons_of_length_pos (show 0 < q.states.length by omega)
      rw [hss] at i3; simp [mv,sttV] at i3
    simp (maxSteps:=1000000) (disch:=omega) only [rg,gD,simprocAttr,z0,mv_len,tasksV,mv_get hit,mv_get hil,i3,taskV,sttV,show (i:Int) < q.states.length by omega]
    refine ⟨_,hex, ?_⟩
    simp (maxSteps:=1000000) (disch:=omega) only [rg,gD,simprocAttr,i3,mv_len,mv_get hil,setC_stt,mv_set,show (i:Int) < q.states.length by omega]
    generalize hM:upd (upd m5 0 _) id _=M
    have hM0:M 0=some (.arr 5 [V.agg ([V.str q.key,V.str q.dag.name,V.fsl .loose 4 (mv taskV q.dag.tasks),V.int .i64 q.is]++V.sl id 0 q.states.length::[])]):=by rw [← hM]; simp (disch:=omega) only [upd_ne,upd_eq]; rfl
    have hM1:M 1=some (.arr 5 [zRV]):=by rw [← hM]; exact (by simp (disch:=omega) only [upd_eq,upd_ne,wo_0,wo_1,wo_2,z1])
    have hMi:M id=some (.arr 5 (mv sttV (q.states.set i (texpireS q.dag.tasks[i] q.states[i] now)))):=by rw [← hM]; exact (by simp (disch:=omega) only [upd_eq,upd_ne,wo_0,wo_1,wo_2])
    have hsn:=fun k => snap_sl (n:=k) (m:=only [id] M) (id:=id) (sz:=5) (len:=q.states.length) (l:=mv sttV (q.states.set i (texpireS q.dag.tasks[i] q.states[i] now))) (by simp [only,hMi]) (mv_closed sttV_closed) (by rw [mv_len]; simp)
    have hmid:=frzV_mid (fz:=[id]) (m:=M) (pre:=[V.str q.key,V.str q.dag.name,V.fsl .loose 4 (mv taskV q.dag.tasks),V.int .i64 q.is]) (post:=[]) hsn (by simp [closedL,V.closed,mv_closed,taskV_closed]) rfl
    have f0:frzH [id] M 0=some (.arr 5 [rnV (withS q i (texpireS q.dag.tasks[i] q.states[i] now))]):=by
      simp only [frzH,hM0,frzO,List.map_cons,List.map_nil,hmid,List.mem_singleton,Ne.symm d0,if_false]; rfl
    have f1:frzH [id] M 1=some (.arr 5 [zRV]):=by
      simp [frzH,hM1,frzO,Ne.symm d1]; exact frz_c rfl
    refine x_frzH [id] ?_
    simp only [vr,frz_p]
    generalize withS q i (texpireS q.dag.tasks[i] q.states[i] now)=q1 at hme f0
    unfold rnV sttsV at f0
    simp (maxSteps:=1000000) (disch:=omega) only [rg,gD,simprocAttr,f0]
    refine ⟨_,hme, ?_⟩
    simp (maxSteps:=1000000) (disch:=omega) only [rg,gD,simprocAttr,f0,rnV,sttsV]
    refine ⟨_,hfi, ?_⟩
    simp (maxSteps:=1000000) (disch:=omega) only [rg,gD,simprocAttr]
    refine hN _ _ hk ⟨?_, ?_, ?_,by rw [hsucc]⟩
    · show 2≤n+kk; omega
    · rw [hsucc]; exact (by simp (disch:=omega) only [upd_eq,upd_ne,wo_0,wo_1,wo_2,rnV,sttsV])
    · exact (by simp (disch:=omega) only [upd_eq,upd_ne,wo_0,wo_1,wo_2,f1])
def c235:C :=
  (.seq
 (.reg false [p (.mov (.k (.int .i64 0)))] [(0,.v 0),(1,.v 1)])
 (.seq
 (.seq
 (.reg false [p (.mov (.v 0)),
 p (.len false (.r 0)),
 p (.mov (.k (.int .i64 0)))] [(0,.v 0),(1,.v 1),(7,.r 1),(8,.r 0)])
 (.block 0
 (.loop
 (.seq
 (.reg false [p (.bin .lss (.v 8) (.v 7))] [(0,.v 0),(1,.v 1),(7,.v 7),(8,.v 8),(9,.r 0)])
 (.seq
 (.cond (.v 9)
 .skip
 (.exit 0))
 (.seq
 (.block 1
 (.seq
 (.reg false [p (.mov (.v 8)),
 p (.mov (.r 0))] [(0,.v 0),(1,.v 1),(5,.r 0),(7,.v 7),(8,.v 8)])
 (.seq
 (.reg false [p (.mov (.v 1)),
 p (.mov (.v 0)),
 p (.mov (.v 5)),
 p (.iad 5 (.r 1) (.r 0)),
 p (.load (some 5) (.r 0)),
 p (.call false (.r 4) [.r 0])] [(0,.v 0),(1,.v 1),(5,.v 5),(7,.v 7),(8,.v 8),(16,.r 0)])
 (.cond (.v 16)
 (.seq
 (.reg false [p (.mov (.v 5)),
 p (.mov (.r 0))] [(4,.r 0)])
 .ret)
 .skip))))
 (.reg false [p (.bin .add (.v 8) (.k (.int .i64 1))),
 p (.mov (.r 0))] [(0,.v 0),(1,.v 1),(7,.v 7),(8,.r 0)])))))))
 (.frz
 (.seq
 (.reg false [p (.mov (.k (.int .i64 (-1))))] [(4,.r 0)])
 .ret))))
def r235:List RV:=[.t 4]
theorem chk235:Chk Tryz.prog Tryz.f235 c235 r235:=⟨_,rfl,by kernel_rfl,by kernel_rfl⟩
theorem ena235:EnA Tryz.prog 235 19 c235 r235:=mkEnA (by kernel_rfl) Tryz.func235 (by kernel_rfl) chk235
def c203:C :=
  (.seq
 (.reg false [p (.mov (.k (.bool false)))] [(0,.v 0),(1,.v 1)])
 (.seq
 (.reg false [p (.mov (.v 0)),
 p (.mov (.v 1)),
 p (.call false (.k (.fn 235 [] [])) [.r 1,.r 0]),
 p (.bin .geq (.r 0) (.k (.int .i64 0))),
 p (.mov (.r 0))] [(4,.r 0)])
 .ret))
def r203:List RV:=[.t 4]
theorem chk203:Chk Tryz.prog Tryz.f203 c203 r203:=⟨_,rfl,by kernel_rfl,by kernel_rfl⟩
theorem ena203:EnA Tryz.prog 203 9 c203 r203:=mkEnA (by kernel_rfl) Tryz.func203 (by kernel_rfl) chk203
def c204:C :=
  (.seq
 (.reg false [p (.box 5 (.v 0)),
 p (.mov (.k (.bool false)))] [(1,.v 1),(2,.r 1)])
 (.seq
 (.reg false [p (.fad 3 (.v 2)),
 p (.load (none) (.r 0)),
 p (.load (none) (.v 1)),
 p (.bin .eql (.r 1) (.r 0)),
 p (.mov (.r 0))] [(3,.r 0)])
 .ret))
def r204:List RV:=[.t 3]
theorem chk204:Chk Tryz.prog Tryz.f204 c204 r204:=⟨_,rfl,by kernel_rfl,by kernel_rfl⟩
theorem ena204:EnA Tryz.prog 204 8 c204 r204:=mkEnA (by kernel_rfl) Tryz.func204 (by kernel_rfl) chk204
def c153:C :=
  (.seq
 (.reg false [p (.box 5 (.v 0)),
 p (.box 1 (.v 1)),
 p (.box 1 (.v 2)),
 p (.alloc 5 (.agg [.str [],.str [],.fsl .nil 4 [],.int .i64 0,.fsl .nil 5 []])),
 p (.alloc 1 (.int .i64 0)),
 p (.alloc 1 (.int .i64 0))] [(3,.r 5),(4,.r 4),(5,.r 3),(6,.r 2),(7,.r 1),(8,.r 0)])
 (.seq
 (.reg false [p (.load (some 5) (.v 3)),
 p (.load (none) (.v 4)),
 p (.call true (.k (.fn 163 [] [])) [.r 1,.r 0]),
 p (.mov (.r 0)),
 p (.ext (.r 0) 0),
 p (.ext (.r 1) 1),
 p (.store (some 5) (.v 3) (.r 1)),
 p (.mov (.r 1))] [(3,.v 3),(4,.v 4),(5,.v 5),(6,.v 6),(7,.v 7),(8,.v 8),(9,.r 0)])
 (.seq
 (.block 0
 (.seq
 (.reg false [p (.mov (.v 9)),
 p (.bin .neq (.r 0) (.k (.int .i64 0))),
 p (.mov (.r 0))] [(3,.v 3),(4,.v 4),(5,.v 5),(6,.v 6),(7,.v 7),(8,.v 8),(9,.v 9),(20,.r 0)])
 (.cond (.v 20)
 (.seq
 (.reg false [p (.build [.str [],.str [],.fsl .nil 4 [],.int .i64 0,.fsl .nil 5 []] []),
 p (.mov (.v 9)),
 p (.store (some 5) (.v 6) (.r 1)),
 p (.store (none) (.v 7) (.k (.int .i64 0))),
 p (.store (none) (.v 8) (.r 2))] [(6,.v 6),(7,.v 7),(8,.v 8)])
 .ret)
 (.seq
 (.reg false [p (.load (none) (.v 5)),
 p (.bin .lss (.r 0) (.k (.int .i64 1))),
 p (.mov (.r 0)),
 ⟨.load (none) (.v 5),some (0,false),[]⟩,
 ⟨.bin .gtr (.r 0) (.k (.int .i64 1099511627776)),some (1,false),[]⟩,
 p (.pick (.r 2) (.k (.bool true)) (.r 0)),
 p (.mov (.r 0)),
 ⟨.fad 4 (.v 3),some (0,false),[]⟩,
 ⟨.load (none) (.r 0),some (1,false),[]⟩,
 ⟨.mkf 204 [] [.v 5],some (2,false),[]⟩,
 ⟨.call false (.k (.fn 203 [] [])) [.r 1,.r 0],some (3,false),[]⟩,
 p (.pick (.r 4) (.k (.bool true)) (.r 0)),
 p (.mov (.r 0))] [(3,.v 3),(4,.v 4),(5,.v 5),(6,.v 6),(7,.v 7),(8,.v 8),(25,.r 0)])
 (.cond (.v 25)
 (.seq
 (.reg false [p (.build [.str [],.str [],.fsl .nil 4 [],.int .i64 0,.fsl .nil 5 []] []),
 p (.store (some 5) (.v 6) (.r 0)),
 p (.store (none) (.v 7) (.k (.int .i64 0))),
 p (.store (none) (.v 8) (.k (.int .i64 1)))] [(6,.v 6),(7,.v 7),(8,.v 8)])
 .ret)
 (.seq
 (.reg false [p (.fad 3 (.v 3)),
 p (.load (none) (.r 0)),
 p (.bin .neq (.r 0) (.k (.int .i64 0))),
 p (.mov (.r 0))] [(3,.v 3),(4,.v 4),(5,.v 5),(6,.v 6),(7,.v 7),(8,.v 8),(39,.r 0)])
 (.cond (.v 39)
 (.seq
 (.reg false [p (.build [.str [],.str [],.fsl .nil 4 [],.int .i64 0,.fsl .nil 5 []] []),
 p (.store (some 5) (.v 6) (.r 0)),
 p (.store (none) (.v 7) (.k (.int .i64 0))),
 p (.store (none) (.v 8) (.k (.int .i64 192)))] [(6,.v 6),(7,.v 7),(8,.v 8)])
 .ret)
 .skip)))))))
 (.seq
 (.seq
 (.reg false [p (.load (some 5) (.v 3)),
 p (.call true (.k (.fn 125 [] [])) [.r 0])] [(3,.v 3),(4,.v 4),(5,.v 5),(6,.v 6),(7,.v 7),(8,.v 8),(45,.r 0)])
 (.block 1
 (.rf (.v 45) [46,47]
 (.seq
 (.reg false [p (.mov (.v 46))] [(3,.v 3),(4,.v 4),(5,.v 5),(6,.v 6),(7,.v 7),(8,.v 8),(10,.r 0),(47,.v 47)])
 (.reg false [p (.alloc 5 (.agg [.int .i64 0,.int .i64 0,.int .i64 0,.int .i64 0,.str []])),
 p (.store (some 5) (.r 0) (.v 47))] [(3,.v 3),(4,.v 4),(5,.v 5),(6,.v 6),(7,.v 7),(8,.v 8),(10,.v 10),(11,.r 1)]))
 (.block 2
 (.seq
 (.reg true [p (.fad 1 (.v 3)),
 p (.fad 1 (.r 0)),
 p (.load (none) (.r 0)),
 p (.mov (.v 10)),
 p (.iad 4 (.r 1) (.r 0)),
 p (.load (some 4) (.r 0)),
 p (.load (some 5) (.v 11)),
 p (.load (none) (.v 4)),
 p (.load (none) (.v 5)),
 p (.call true (.k (.fn 205 [] [])) [.r 3,.r 2,.r 1,.r 0]),
 p (.mov (.r 0)),
 p (.ext (.r 0) 0),
 p (.ext (.r 1) 1),
 ⟨.alloc 5 (.agg [.int .i64 0,.int .i64 0,.int .i64 0,.int .i64 0,.str []]),none,[10,8,7,6,5,4]⟩,
 p (.store (some 5) (.r 0) (.r 2)),
 p (.mov (.r 2))] [(3,.v 3),(6,.v 6),(7,.v 7),(8,.v 8),(10,.v 10),(12,.r 2),(13,.r 0)])
 (.seq
 (.reg false [p (.mov (.v 13)),
 p (.bin .eql (.r 0) (.k (.int .i64 0)))] [(3,.v 3),(6,.v 6),(7,.v 7),(8,.v 8),(10,.v 10),(12,.v 12),(62,.r 0)])
 (.cond (.v 62)
 (.seq
 (.reg false [p (.fad 4 (.v 3)),
 p (.load (none) (.r 0)),
 p (.call false (.k (.fn 206 [] [])) [.r 0]),
 p (.fad 4 (.v 3)),
 p (.store (none) (.r 0) (.r 1))] [(3,.v 3),(6,.v 6),(7,.v 7),(8,.v 8),(10,.v 10),(12,.v 12)])
 (.seq
 (.reg false [p (.fad 4 (.v 3)),
 p (.load (none) (.r 0)),
 p (.mov (.v 10)),
 p (.load (some 5) (.v 12)),
 p (.iad 5 (.r 2) (.r 1)),
 p (.store (some 5) (.r 0) (.r 1))] [(3,.v 3),(6,.v 6),(7,.v 7),(8,.v 8),(10,.v 10)])
 (.seq
 (.reg false [p (.load (some 5) (.v 3)),
 p (.mov (.v 10)),
 p (.store (some 5) (.v 6) (.r 1)),
 p (.store (none) (.v 7) (.r 1)),
 p (.store (none) (.v 8) (.k (.int .i64 0)))] [])
 .ret)))
 .skip)))))))
 (.seq
 (.reg false [p (.build [.str [],.str [],.fsl .nil 4 [],.int .i64 0,.fsl .nil 5 []] []),
 p (.store (some 5) (.v 6) (.r 0)),
 p (.store (none) (.v 7) (.k (.int .i64 0))),
 p (.store (none) (.v 8) (.k (.int .i64 192)))] [(6,.v 6),(7,.v 7),(8,.v 8)])
 .ret)))))
def r153:List RV:=[.c 6 (some 5),.c 7 (none),.c 8 (none)]
theorem en153:EnP Tryz.prog 153 75 c153 r153:=mkEnP (by kernel_rfl) Tryz.func153 (by kernel_rfl) ⟨_,rfl,by kernel_rfl,by kernel_rfl⟩
def c150:C :=
  (.seq
 (.reg false [p (.box 2 (.v 1)),
 p (.alloc 5 (.agg [.str [],.str [],.fsl .nil 4 [],.int .i64 0,.fsl .nil 5 []])),
 p (.mov (.k (.int .i64 0)))] [(0,.v 0),(3,.r 2),(4,.r 1)])
 (.seq
 (.seq
 (.reg false [p (.mov (.v 0)),
 p (.call true (.k (.fn 123 [] [])) [.r 0]),
 p (.un .not (.r 0))] [(0,.v 0),(3,.v 3),(4,.v 4),(9,.r 0)])
 (.cond (.v 9)
 (.seq
 (.reg false [p (.build [.str [],.str [],.fsl .nil 4 [],.int .i64 0,.fsl .nil 5 []] []),
 p (.store (some 5) (.v 4) (.r 0)),
 p (.mov (.k (.int .i64 1)))] [(4,.v 4),(5,.r 0)])
 .ret)
 .skip))
 (.seq
 (.seq
 (.reg false [p (.load (some 2) (.v 3)),
 p (.call true (.k (.fn 54 [] [])) [.r 0]),
 p (.mov (.r 0))] [(0,.v 0),(3,.v 3),(4,.v 4),(6,.r 0)])
 (.seq
 (.reg false [p (.mov (.v 6)),
 p (.bin .neq (.r 0) (.k (.int .i64 0)))] [(0,.v 0),(3,.v 3),(4,.v 4),(6,.v 6),(14,.r 0)])
 (.cond (.v 14)
 (.seq
 (.reg false [p (.build [.str [],.str [],.fsl .nil 4 [],.int .i64 0,.fsl .nil 5 []] []),
 p (.mov (.v 6)),
 p (.store (some 5) (.v 4) (.r 1)),
 p (.mov (.r 1))] [(4,.v 4),(5,.r 0)])
 .ret)
 .skip)))
 (.seq
 (.reg true [p (.mov (.v 0)),
 p (.load (some 2) (.v 3)),
 p (.fad 1 (.v 3)),
 p (.load (none) (.r 0)),
 p (.len false (.r 0)),
 ⟨.mks 5 48 (.agg [.int .i64 0,.int .i64 0,.int .i64 0,.int .i64 0,.str []]) (.r 0),none,[3]⟩,
 p (.build [.str [],.str [],.fsl .nil 4 [],.int .i64 0,.fsl .nil 5 []] [(0,1,.r 5),(1,2,.r 4),(4,1,.r 0)]),
 p (.call false (.k (.fn 200 [] [])) [.r 0]),
 p (.store (some 5) (.v 4) (.r 0)),
 p (.mov (.k (.int .i64 0)))] [(4,.v 4),(5,.r 0)])
 .ret))))
def r150:List RV:=[.c 4 (some 5),.t 5]
theorem en150:EnP Tryz.prog 150 25 c150 r150:=mkEnP (by kernel_rfl) Tryz.func150 (by kernel_rfl) ⟨_,rfl,by kernel_rfl,by kernel_rfl⟩
def c162:C :=
  (.seq
 (.reg false [p (.box 5 (.v 0)),
 p (.alloc 5 (.agg [.str [],.str [],.fsl .nil 4 [],.int .i64 0,.fsl .nil 5 []])),
 p (.mov (.k (.int .i64 0)))] [(1,.v 1),(2,.r 2),(4,.r 1)])
 (.seq
 (.reg false [p (.load (some 5) (.v 2)),
 p (.mov (.v 1)),
 p (.call true (.k (.fn 163 [] [])) [.r 1,.r 0]),
 p (.mov (.r 0)),
 p (.ext (.r 0) 0),
 p (.ext (.r 1) 1),
 p (.store (some 5) (.v 2) (.r 1)),
 p (.mov (.r 1))] [(2,.v 2),(4,.v 4),(6,.r 0)])
 (.seq
 (.block 0
 (.seq
 (.reg false [p (.mov (.v 6)),
 p (.bin .neq (.r 0) (.k (.int .i64 0))),
 p (.mov (.r 0))] [(2,.v 2),(4,.v 4),(6,.v 6),(15,.r 0)])
 (.cond (.v 15)
 (.seq
 (.reg false [p (.build [.str [],.str [],.fsl .nil 4 [],.int .i64 0,.fsl .nil 5 []] []),
 p (.mov (.v 6)),
 p (.store (some 5) (.v 4) (.r 1)),
 p (.mov (.r 1))] [(4,.v 4),(5,.r 0)])
 .ret)
 (.seq
 (.reg false [p (.fad 3 (.v 2)),
 p (.load (none) (.r 0)),
 p (.bin .neq (.r 0) (.k (.int .i64 0))),
 p (.mov (.r 0))] [(2,.v 2),(4,.v 4),(20,.r 0)])
 (.cond (.v 20)
 (.seq
 (.reg false [p (.build [.str [],.str [],.fsl .nil 4 [],.int .i64 0,.fsl .nil 5 []] []),
 p (.store (some 5) (.v 4) (.r 0)),
 p (.mov (.k (.int .i64 193)))] [(4,.v 4),(5,.r 0)])
 .ret)
 .skip)))))
 (.seq
 (.reg false [p (.fad 4 (.v 2)),
 p (.load (none) (.r 0)),
 p (.call false (.k (.fn 206 [] [])) [.r 0]),
 p (.fad 4 (.v 2)),
 p (.store (none) (.r 0) (.r 1))] [(2,.v 2),(4,.v 4)])
 (.seq
 (.seq
 (.reg false [p (.fad 4 (.v 2)),
 p (.load (none) (.r 0)),
 p (.len false (.r 0)),
 p (.mov (.k (.int .i64 0)))] [(2,.v 2),(4,.v 4),(30,.r 2),(31,.r 1),(32,.r 0)])
 (.block 1
 (.loop
 (.seq
 (.reg false [p (.bin .lss (.v 32) (.v 31))] [(2,.v 2),(4,.v 4),(30,.v 30),(31,.v 31),(32,.v 32),(33,.r 0)])
 (.seq
 (.cond (.v 33)
 .skip
 (.exit 1))
 (.seq
 (.block 2
 (.seq
 (.reg false [p (.mov (.v 32)),
 p (.iad 5 (.v 30) (.v 32)),
 p (.load (some 5) (.r 0)),
 p (.alloc 5 (.agg [.int .i64 0,.int .i64 0,.int .i64 0,.int .i64 0,.str []])),
 p (.mov (.r 3)),
 p (.store (some 5) (.r 1) (.r 2))] [(2,.v 2),(4,.v 4),(7,.r 1),(8,.r 2),(30,.v 30),(31,.v 31),(32,.v 32)])
 (.reg true [p (.fad 4 (.v 2)),
 p (.load (none) (.r 0)),
 p (.mov (.v 7)),
 p (.load (some 5) (.v 8)),
 p (.call true (.k (.fn 217 [] [])) [.r 0]),
 p (.iad 5 (.r 3) (.r 2)),
 p (.store (some 5) (.r 0) (.r 1))] [(2,.v 2),(4,.v 4),(30,.v 30),(31,.v 31),(32,.v 32)])))
 (.reg false [p (.bin .add (.v 32) (.k (.int .i64 1))),
 p (.mov (.r 0))] [(2,.v 2),(4,.v 4),(30,.v 30),(31,.v 31),(32,.r 0)])))))))
 (.frz
 (.seq
 (.reg false [p (.fad 3 (.v 2)),
 p (.store (none) (.r 0) (.k (.int .i64 3)))] [(2,.v 2),(4,.v 4)])
 (.seq
 (.reg false [p (.load (some 5) (.v 2)),
 p (.store (some 5) (.v 4) (.r 0)),
 p (.mov (.k (.int .i64 0)))] [(4,.v 4),(5,.r 0)])
 .ret))))))))
def r162:List RV:=[.c 4 (some 5),.t 5]
theorem en162:EnP Tryz.prog 162 46 c162 r162:=mkEnP (by kernel_rfl) Tryz.func162 (by kernel_rfl) ⟨_,rfl,by kernel_rfl,by kernel_rfl⟩
section
def ixA {α:Type} (rows:List α) (q:α→Bool):Int:=match rows.findIdx? q with | some i => i | none => -1
open Classical in
noncomputable def onV {α:Type} (f:α→V) (q:α→Bool) (v:V):Bool:=if h:∃ a,f a=v then q (Classical.choose h) else false
theorem onV_at {α:Type} {f:α→V} {q:α→Bool} (hi:∀ a b,f a=f b→a=b) (a:α):onV f q (f a)=q a:=by
  unfold onV
  have h:∃ b,f b=f a:=⟨a,rfl⟩
  rw [dif_pos h]
  exact congrArg q (hi _ _ (Classical.choose_spec h))
theorem any_onV {α:Type} {f:α→V} {q:α→Bool} (hi:∀ a b,f a=f b→a=b) (rows:List α):(mv f rows).any (onV f q)=rows.any q:=by
  rw [mv,List.any_map]; congr 1; funext a; exact onV_at hi a
theorem ix_onV {α:Type} {f:α→V} {q:α→Bool} (hi:∀ a b,f a=f b→a=b) (rows:List α):ixV (mv f rows) (onV f q)=ixA rows q:=by
  unfold ixV ixA mv
  rw [List.findIdx?_map]
  have:(onV f q ∘ f)=q:=by funext a; exact onV_at hi a
  rw [this]; cases List.findIdx? q rows<;>rfl
section
variable {P:Program} {α:Type} {f:α→V} {F F2 n n2 sz:Nat} {k:Option Nat} {st:St} {rows:List α} {fs cs:List V} {g:Nat} {q:α→Bool} {H:Hp} {fp:List Nat} {kk:Nat}
theorem idx_of (hen:EnA P F n (idxC sz k) [.t 4]) (hn2:2≤n) (hi:∀ a b,f a=f b→a=b) (hc:∀ a,(f a).closed=true) (hg0:∀ a,getC k 0 (f a)=some (f a)) (hn:rows.length≤4611686018427387904) (hl:lowL H.n fs=true) (hl':lowL H.n cs=true) (hfp:FpOk H fp)
    (hg:∀ x∈rows,∀ H':Hp,H.n≤H'.n→(∀ id∈fp,H'.m id=H.m id)→ACall P g (fs++[f x]++cs) H' fp (.bool (q x)) [] kk) :
    ACall P F [.fsl st sz (mv f rows),.fn g fs cs] H fp (.int .i64 (ixA rows q)) [] (rows.length*kk):=by
  have:=idx_gen (P:=P) (f:=F) (st:=st) (rows:=mv f rows) (fs:=fs) (cs:=cs) (g:=g) (q:=onV f q) (H:=H) (fp:=fp) (kk:=kk) hen hn2 (mv_closed hc) (fun e he => by obtain ⟨a,_,rfl⟩:=mv_mem he; exact hg0 a) (by rw [mv_len]; omega) hl hl' hfp
    (fun e he H' h1 h2 => by obtain ⟨a,ha,rfl⟩:=mv_mem he; rw [onV_at hi]; exact hg a ha H' h1 h2)
  rwa [mv_len,ix_onV hi] at this
theorem con_of (hen:EnA P F n (conC F2) [.t 4]) (hen2:EnA P F2 n2 (idxC sz k) [.t 4]) (hn1:2≤n) (hn2:2≤n2) (hi:∀ a b,f a=f b→a=b) (hc:∀ a,(f a).closed=true) (hg0:∀ a,getC k 0 (f a)=some (f a)) (hn:rows.length≤4611686018427387904) (hl:lowL H.n fs=true) (hl':lowL H.n cs=true) (hfp:FpOk H fp)
    (hg:∀ x∈rows,∀ H':Hp,H.n≤H'.n→(∀ id∈fp,H'.m id=H.m id)→ACall P g (fs++[f x]++cs) H' fp (.bool (q x)) [] kk) :
    ACall P F [.fsl st sz (mv f rows),.fn g fs cs] H fp (.bool (rows.any q)) [] (rows.length*kk):=by
  have:=con_gen (P:=P) (f:=F) (f2:=F2) (st:=st) (rows:=mv f rows) (fs:=fs) (cs:=cs) (g:=g) (q:=onV f q) (H:=H) (fp:=fp) (kk:=kk) hen hen2 hn1 hn2 (mv_closed hc) (fun e he => by obtain ⟨a,_,rfl⟩:=mv_mem he; exact hg0 a) (by rw [mv_len]; omega) hl hl' hfp
    (fun e he H' h1 h2 => by obtain ⟨a,ha,rfl⟩:=mv_mem he; rw [onV_at hi]; exact hg a ha H' h1 h2)
  rwa [mv_len,any_onV hi] at this
end
theorem mv_inj {α:Type} {f:α→V} (hi:∀ a b,f a=f b→a=b):∀ {l l':List α},mv f l=mv f l'→l=l'
  | [],[],_ => rfl
  | [],_::_,h => by simp [mv] at h
  | _::_,[],h => by simp [mv] at h
  | a::l,b::l',h => by
    simp only [mv_cons,List.cons.injEq] at h
    rw [hi _ _ h.1,mv_inj hi h.2]
theorem CloneOK.row {P:Program} {f sz bt:Nat} (h:CloneOK P f sz bt) {H:Hp} {K:KI} {st:St} {l:List V} (h0:0 < l.length) (hc:closedL l=true) (hl:l.length*bt≤140737488355328)
    (k:K (.sl H.n 0 l.length) [] [(H.n,some (.arr sz l))] 1):CallA P f [.fsl st sz l] H K:=by
  cases l with
  | nil => simp at h0
  | cons v l => exact .of (ACall.any_st (.first (fun e => by cases e) (h.2.2 H v l hc (by simpa using hl)))) k
theorem x_rfE {P:Program} {σ:Sg} {H:Hp} {Q:QA} {s:Src} {p1 p2:Nat} {a b:C} {fn:Nat} {cs:List V} {α:Type} {f:α→V} (l:List α) (els:List (List V)) (he0:els=(List.range l.length).map fun k => match l[k]? with | some x => [.int .i64 (k:Int),f x] | none => [])
    (I:Nat→Hp→Prop) (hl:look σ [] s=some (.fn fn [] cs)) (hc:closedL cs=true) (hs:SeqC P fn cs els) (h0:I 0 H)
    (hr:∀ (Q':QA) k H' (hk:k < l.length),I k H'→(∀ σ' H2,I (k+1) H2→Q' .norm σ' H2)→(∀ id σ' H2,Q (.exit id) σ H2→Q' (.exit id) σ' H2)→(∀ σ' H2,Q .ret σ H2→Q' .ret σ' H2) →
      evX P a ((p2,f l[k])::(p1,.int .i64 (k:Int))::σ) H' (Ra P b Q'))
    (he:∀ H',I l.length H'→Q .norm σ H'):evX P (.rf s [p1,p2] a b) σ H Q:=by
  subst he0
  refine x_rf _ I hl hc hs ?_ h0 ?_ ?_
  · intro el hel
    obtain ⟨k,hk,rfl⟩:=List.mem_map.1 hel
    simp at hk
    simp [hk]
  · intro Q' k el H' hI hel h1 h2 h3
    have hk:k < l.length:=by
      have:=(List.getElem?_eq_some_iff.1 hel).1
      simpa using this
    simp [hk] at hel
    subst hel
    exact hr Q' k H' hk hI h1 h2 h3
  · intro H' hI
    exact he H' (by simpa using hI)
end
def fndS {α:Type} (p:α→Bool):Nat→List α→Option Nat
  | _,[] => none
  | i,s::l => if p s=true then some i else fndS p (i+1) l
theorem fndS_some {α:Type} {p:α→Bool}:∀ {l:List α} {i j:Nat},fndS p i l=some j→i≤j∧∃ h:j - i < l.length,p l[j - i]=true∧∀ k (hk:k < j - i),p (l[k]'(by omega))=false
  | [],i,j,h => by simp [fndS] at h
  | s::l,i,j,h => by
    simp only [fndS] at h
    split at h
    · rename_i hp; simp at h; subst h
      exact ⟨Nat.le_refl _,by simp,by simpa using hp,fun k hk => by omega⟩
    · rename_i hp
      obtain ⟨h1,h2,h3,h4⟩:=fndS_some h
      refine ⟨by omega,by simp only [List.length_cons]; omega, ?_,fun k hk => ?_⟩
      · have e:j - i=(j - (i+1))+1:=by omega
        simp only [e,List.getElem_cons_succ]; exact h3
      · cases k with
        | zero => simpa using hp
        | succ k => simp only [List.getElem_cons_succ]; exact h4 k (by omega)
theorem fndS_get {α:Type} {p:α→Bool} {l:List α} {j:Nat} (h:fndS p 0 l=some j):∃ hj:j < l.length,p l[j]=true∧∀ k (hk:k < j),p (l[k]'(by omega))=false:=by
  obtain ⟨_,h1,h2,h3⟩:=fndS_some h
  simp only [Nat.sub_zero] at h1 h2 h3
  exact ⟨h1,h2,h3⟩
theorem fndS_drop {α:Type} {p:α→Bool} {l:List α} {k:Nat} (h:k < l.length):fndS p k (l.drop k)=if p l[k]=true then some k else fndS p (k+1) (l.drop (k+1)):=by
  rw [List.drop_eq_getElem_cons h,fndS]
theorem any_drop {α:Type} {p:α→Bool} {l:List α} {k:Nat} (h:k < l.length):(l.drop k).any p=(p l[k] || (l.drop (k+1)).any p):=by
  rw [List.drop_eq_getElem_cons h,List.any_cons]
def dueP (u:Int) (s:Stt):Bool:=decide (s.is=1) && decide (s.due≤u)
def tokP (k:Int) (s:Stt):Bool:=decide (s.token=k)
def holdP (k:Int) (s:Stt):Bool:=decide (s.is=2) && decide (s.token=k)
def leaseAt (q:Rn) (now token:Int) (i:Nat):Rn:=match q.dag.tasks[i]?,q.states[i]? with | some t,some s => withS q i (tleaseS t s now token).1 | _,_ => zR
theorem leaseAt_get {q:Rn} {now token:Int} {i:Nat} (h1:i < q.dag.tasks.length) (h2:i < q.states.length):leaseAt q now token i=withS q i (tleaseS q.dag.tasks[i] q.states[i] now token).1:=by simp [leaseAt,h1,h2]
def leaseQ (now token:Int) (q:Rn):Rn×Int×Int :=
  if token < 1∨MT < token then (zR,0,1) else if q.states.any (tokP token)=true then (zR,0,1) else if q.is≠0 then (zR,0,192)
  else match fndS (dueP (untilS [now])) 0 q.states with | some i => (leaseAt q now token i,(i:Int),0) | none => (zR,0,192)
def leaseS (now token:Int) (r:Rn):Rn×Int×Int:=leaseQ now token (settleS now r)
def leV (p:Rn×Int×Int):V:=.tup [rnV p.1,.int .i64 p.2.1,.int .i64 p.2.2]
structure Qk (r q:Rn):Prop where
  shp:Shp r q
  tried:∀ s∈q.states,0≤s.tried∧s.tried≤8
theorem RnR.q {r:Rn} (h:RnR r) (now:Int):Qk r (settleS now r) :=
  ⟨settleS_shp now r,rndS_all (p:=fun s => 0≤s.tried∧s.tried≤8) (fun s hs => by rw [tcancel_tried]; exact hs) (fun s hs => by rw [tready_tried]; exact hs) (fun t s hs => by rw [texpire_tried]; exact hs)
    (fun s hs => by have:=(standsS_iff s).1 (h.stands s hs); omega) _⟩
theorem lease_ok {t:Task} {s:Stt} {now token:Int} (ht:¬ (token < 1∨MT < token)) (h:dueP (untilS [now]) s=true):(tleaseS t s now token).2=0:=by
  simp only [dueP,Bool.and_eq_true,decide_eq_true_eq] at h
  unfold tleaseS
  rw [if_neg ht,if_neg (by omega)]
theorem lease_no {t:Task} {s:Stt} {now token:Int} (ht:¬ (token < 1∨MT < token)) (h:dueP (untilS [now]) s=false):(tleaseS t s now token).2=192:=by
  simp only [dueP,Bool.and_eq_false_iff,decide_eq_false_iff_not] at h
  unfold tleaseS
  rw [if_neg ht,if_pos (by omega)]
theorem sttV_inj (a b:Stt) (h:sttV a=sttV b):a=b:=by
  cases a; cases b; simpa [sttV] using h
theorem con_states {st:St} {rows:List Stt} {fs cs:List V} {g:Nat} {q:Stt→Bool} {H:Hp} {fp:List Nat} {kk:Nat} (hn:rows.length≤1000000) (hl:lowL H.n fs=true) (hl':lowL H.n cs=true) (hfp:FpOk H fp)
    (hg:∀ x∈rows,∀ H':Hp,H.n≤H'.n→(∀ id∈fp,H'.m id=H.m id)→ACall Tryz.prog g (fs++[sttV x]++cs) H' fp (.bool (q x)) [] kk) :
    ACall Tryz.prog 203 [.fsl st 5 (mv sttV rows),.fn g fs cs] H fp (.bool (rows.any q)) [] (rows.length*kk) :=
  con_of (k:=some 5) ena203 ena235 (by decide) (by decide) sttV_inj sttV_closed (fun _ => rfl) (by omega) hl hl' hfp hg
theorem lease_clo (H:Hp) (b:Nat) (s:Stt) (k:Int) (hb:b < H.n) (h1:H.m b=some (.arr 1 [.int .i64 k])) :
    ACall Tryz.prog 204 [sttV s,.ptr b 0 0] H [b] (.bool (tokP k s)) [] 1:=by
  refine ena204 (by simp) (by simp [lowL,V.low,hb,V.low_closed _ (sttV_closed s)]) (fun id hid => ?_) (by simp) ?_
  · simp at hid; subst hid
    exact ⟨hb,fun o ho => by rw [h1] at ho; simp at ho; subst ho; rfl⟩
  have q1:only [b] H.m b=some (.arr 1 [.int .i64 k]):=by simp [only,h1]
  have hne:b≠H.n:=by omega
  simp (maxSteps:=1000000) (disch:=omega) only [rg,gD,simprocAttr,c204,sttV,q1]
  refine fin_A (l:=[.bool (tokP k s)]) rfl (.inl rfl) (by simp) (fun j => ?_)
  by_cases hj:j=H.n
  · subst hj; left; simp [appd,only]; omega
  · right; simp [appd,upd,hj]
theorem elsOf_eq {α:Type} (f:α→V) (l:List α):elsOf 0 (mv f l)=(List.range l.length).map fun k => match l[k]? with | some x => [.int .i64 (k:Int),f x] | none => []:=by
  apply List.ext_getElem?
  intro k
  rw [elsOf_at]
  by_cases hk:k < l.length
  · simp [mv,hk]
  · simp [mv,hk]
theorem setC_stx (a z:Stt):setC (some 5) 0 (sttV a) (V.agg [V.int .i64 z.is,V.int .i64 z.tried,V.int .i64 z.due,V.int .i64 z.token,V.str z.result])=some (sttV z):=rfl
theorem snap_own4 {n:Nat} {m:Hm} {id:Nat} {a b:Str} {ts:List Task} {i:Int} {ss:List Stt} {len:Nat} (h:m id=some (.arr 5 (mv sttV ss))) (hl:len=ss.length) :
    snap (n+2) m (.agg [.str a,.str b,tasksV ts,.int .i64 i,.sl id 0 len])=some (.agg [.str a,.str b,tasksV ts,.int .i64 i,.fsl .loose 5 (mv sttV ss)]):=by
  have hsn:=snap_sl (n:=n) (m:=m) (id:=id) (sz:=5) (len:=len) (l:=mv sttV ss) h (mv_closed sttV_closed) (by rw [mv_len,hl])
  exact snap_agg (mapO_app (a:=[.str a,.str b,tasksV ts,.int .i64 i]) (b:=[.sl id 0 len]) (mapO_closed (by simp [closedL,V.closed,tasksV_closed])) (by simp [mapO,hsn]))
theorem run_lease (r:Rn) (now token:Int) (ok:RnOk r) (h:RnR r):PCall Tryz.prog 153 [rnV r,.int .i64 now,.int .i64 token] (leV (leaseS now token r)):=by
  obtain ⟨hts,hss,hin,hnl⟩:=h.small
  have hq:=h.q now
  have hse:=run_settle r now ok h
  unfold leaseS
  generalize settleS now r=q at hq hse
  obtain ⟨⟨hk1,hk2,hk3⟩,htr⟩:=hq
  have hlq:q.states.length=q.dag.tasks.length:=by rw [hk2,hk3]; exact h.len
  refine en153 (by simp) (by simp [closedL,V.closed,rnV_closed]) ?_
  simp (maxSteps:=1000000) (disch:=omega) only [rg,gD,simprocAttr,c153,rnV,sttsV]
  refine ⟨_,hse, ?_⟩
  by_cases c0:token < 1
  · simp (maxSteps:=1000000) (disch:=omega) only [rg,gD,simprocAttr,rnV,sttsV,c0]
    (refine fin_x rfl ?_ ?_<;>simp [pack,lo,loL,V.closed,closedL,mv_closed,leV,leaseQ,c0,zR,rnV,sttsV,tasksV,mv])
  by_cases c1:MT < token
  · unfold MT at c1
    simp (maxSteps:=1000000) (disch:=omega) only [rg,gD,simprocAttr,rnV,sttsV,c0,c1]
    (refine fin_x rfl ?_ ?_<;>simp [pack,lo,loL,V.closed,closedL,mv_closed,leV,leaseQ,c0,show MT < token from c1,zR,rnV,sttsV,tasksV,mv])
  have c01:¬ (token < 1∨MT < token):=fun e => e.elim c0 c1
  have c1':=c1
  unfold MT at c1'
  simp (maxSteps:=1000000) (disch:=omega) only [rg,gD,simprocAttr,rnV,sttsV,c0,c1']
  refine ⟨_,_,_,_,con_states (rows:=q.states) (q:=tokP token) (fp:=[2]) (kk:=1) (by omega) rfl (by simp [lowL,V.low]) (fun id hid => ?_) (fun x hx H' h1 h2 => ?_), ?_⟩
  · simp at hid; subst hid
    exact ⟨by simp,fun o ho => by simp [upd] at ho; subst ho; rfl⟩
  · exact lease_clo H' 2 x token (by simp only at h1; omega) (by rw [h2 2 (by simp)]; simp [upd])
  cases ht:q.states.any (tokP token) with
  | true =>
    simp (maxSteps:=1000000) (disch:=omega) only [rg,gD,simprocAttr]
    (refine fin_x rfl ?_ ?_<;>simp [pack,lo,loL,V.closed,closedL,mv_closed,leV,leaseQ,c0,c1,ht,zR,rnV,sttsV,tasksV,mv])
  | false =>
  by_cases d0:q.is=0
  case neg =>
    simp (maxSteps:=1000000) (disch:=omega) only [rg,gD,simprocAttr,eq_false d0]
    (refine fin_x rfl ?_ ?_<;>simp [pack,lo,loL,V.closed,closedL,mv_closed,leV,leaseQ,c0,c1,ht,d0,zR,rnV,sttsV,tasksV,mv])
  have hea:=run_each q
  have hsq:=seq_each q (by omega)
  have hres0:leaseQ now token q=match fndS (dueP (untilS [now])) 0 q.states with | some i => (leaseAt q now token i,(i:Int),0) | none => (zR,0,192):=by
    rw [leaseQ,if_neg c01,if_neg (by rw [ht]; simp),if_neg (by simp [d0])]<;>(cases fndS (dueP (untilS [now])) 0 q.states<;>rfl)
  unfold rnV sttsV at hea hsq
  simp (maxSteps:=1000000) (disch:=omega) only [rg,gD,simprocAttr,eq_true d0]
  refine ⟨_,hea, ?_⟩
  simp (maxSteps:=1000000) (disch:=omega) only [rg,gD,simprocAttr]
  refine x_rfE q.states _ (elsOf_eq sttV q.states) (fun k H => 6≤H.n∧H.m 0=some (.arr 5 [rnV q])∧H.m 1=some (.arr 1 [.int .i64 now])∧H.m 2=some (.arr 1 [.int .i64 token])∧H.m 3=some (.arr 5 [zRV])∧H.m 4=some (.arr 1 [.int .i64 0])∧H.m 5=some (.arr 1 [.int .i64 0]) ∧
    fndS (dueP (untilS [now])) 0 q.states=fndS (dueP (untilS [now])) k (q.states.drop k)) rfl (by simp [closedL,V.closed,tasksV_closed,mv_closed,sttV_closed]) hsq ⟨by simp only []; omega,by simp [upd,rnV,sttsV],by simp [upd],by simp [upd],by simp [upd],by simp [upd],by simp [upd],rfl⟩ ?_ ?_
  · rintro T k ⟨n,m⟩ hk ⟨hn,e0,e1,e2,e3,e4,e5,hf⟩ hN hX hR
    simp only at hn e0 e1 e2 e3 e4 e5
    have hkt:k < q.dag.tasks.length:=by omega
    have hle:=task_lease q.dag.tasks[k] q.states[k] now token (by have:=htr _ (List.getElem_mem hk); omega)
    have l0:(0:Nat)≠n:=by omega
    rw [fndS_drop hk] at hf
    have hlok:=lease_ok (t:=q.dag.tasks[k]) (s:=q.states[k]) (now:=now) (token:=token) c01
    have hlno:=lease_no (t:=q.dag.tasks[k]) (s:=q.states[k]) (now:=now) (token:=token) c01
    have hat:=leaseAt_get (now:=now) (token:=token) hkt hk
    generalize hz:tleaseS q.dag.tasks[k] q.states[k] now token=z at hle hlok hlno hat
    obtain ⟨z1,z2⟩:=z
    simp only at hlok hlno hat
    unfold seV at hle
    unfold rnV sttsV tasksV at e0
    cases hd:dueP (untilS [now]) q.states[k] with
    | false =>
      rw [hd] at hf
      have hz2:=hlno hd
      subst hz2
      simp (maxSteps:=1000000) (disch:=omega) only [rg,gD,simprocAttr,sttV,e0,e1,e2,e3,e4,e5,mv_get hkt,taskV]
      refine ⟨_,hle, ?_⟩
      simp (maxSteps:=1000000) (disch:=omega) only [rg,gD,simprocAttr,sttV]
      refine ⟨by simp [compat,disj,nthL]<;>omega, ?_⟩
      exact hN _ _ ⟨by show 6≤n+2; omega,(by simp (disch:=omega) only [upd_eq,upd_ne,wo_0,wo_1,wo_2,e0,rnV,sttsV,tasksV]),(by simp (disch:=omega) only [upd_eq,upd_ne,wo_0,wo_1,wo_2,e1]),(by simp (disch:=omega) only [upd_eq,upd_ne,wo_0,wo_1,wo_2,e2]),(by simp (disch:=omega) only [upd_eq,upd_ne,wo_0,wo_1,wo_2,e3]),(by simp (disch:=omega) only [upd_eq,upd_ne,wo_0,wo_1,wo_2,e4]),(by simp (disch:=omega) only [upd_eq,upd_ne,wo_0,wo_1,wo_2,e5]),by simpa using hf⟩
    | true =>
      rw [hd] at hf
      have hz2:=hlok hd
      subst hz2
      have hres:leaseQ now token q=(leaseAt q now token k,(k:Int),0):=by rw [hres0,hf]; simp
      simp (maxSteps:=1000000) (disch:=omega) only [rg,gD,simprocAttr,sttV,e0,e1,e2,e3,e4,e5,mv_get hkt,taskV]
      refine ⟨_,hle, ?_⟩
      simp (maxSteps:=1000000) (disch:=omega) only [rg,gD,simprocAttr,sttV,e0]
      refine ⟨by simp [compat,disj,nthL]<;>omega, ?_⟩
      refine clone_states.row (by rw [mv_len]; omega) (mv_closed sttV_closed) (by rw [mv_len]; omega) ?_
      simp (maxSteps:=1000000) (disch:=omega) only [rg,gD,simprocAttr,e0,mv_len,show (k:Int) < q.states.length by omega,mv_get hk,setC_stx,mv_set,e3,e4,e5]
      refine hR _ _ ?_
      simp (maxSteps:=1000000) (disch:=omega) only [rg,gD,simprocAttr]
      rw [hres,hat]
      refine fin_y (v:=.tup [.agg [.str q.key,.str q.dag.name,tasksV q.dag.tasks,.int .i64 q.is,.fsl .loose 5 (mv sttV (q.states.set k z1))],.int .i64 (k:Int),.int .i64 0])
        (l:=[.agg [.str q.key,.str q.dag.name,tasksV q.dag.tasks,.int .i64 q.is,.sl (n+2) 0 q.states.length],.int .i64 (k:Int),.int .i64 0]) rfl ?_ (by simp [lo,loL,leV,withS,rnV,sttsV,tasksV_lo,mv_lo sttV_lo])
      refine snap_tup (mapO_c (snap_own4 (by simp (disch:=omega) only [upd_eq,upd_ne,wo_0,wo_1,wo_2]) (by simp)) (mapO_closed rfl))
  · rintro ⟨n,m⟩ ⟨hn,e0,e1,e2,e3,e4,e5,hf⟩
    simp only at hn e0 e1 e2 e3 e4 e5
    rw [List.drop_length] at hf
    have hres:leaseQ now token q=(zR,0,192):=by rw [hres0,hf]; rfl
    rw [hres]
    simp (maxSteps:=1000000) (disch:=omega) only [rg,gD,simprocAttr,e3,e4,e5]
    (refine fin_x rfl ?_ ?_<;>simp [pack,lo,loL,V.closed,closedL,mv_closed,leV,zR,rnV,sttsV,tasksV,mv])
def ixO:Option Nat→Int
  | some i => i
  | none => -1
def toldQ (f:Task→Stt→Stt×Int) (token:Int) (q:Rn):Rn×Int :=
  match fndS (holdP token) 0 q.states with
  | none => (zR,191)
  | some i => match q.dag.tasks[i]?,q.states[i]? with
    | some t,some s => if (f t s).2≠0 then (zR,(f t s).2) else (mendS (withS q i (f t s).1),0)
    | _,_ => (zR,191)
def toldS (now:Int) (f:Task→Stt→Stt×Int) (token:Int) (r:Rn):Rn×Int:=toldQ f token (settleS now r)
def rnE (p:Rn×Int):V:=.tup [rnV p.1,.int .i64 p.2]
theorem toldQ_some {f:Task→Stt→Stt×Int} {token:Int} {q:Rn} {i:Nat} (h:fndS (holdP token) 0 q.states=some i) (h1:i < q.dag.tasks.length) (h2:i < q.states.length) :
    toldQ f token q=if (f q.dag.tasks[i] q.states[i]).2≠0 then (zR,(f q.dag.tasks[i] q.states[i]).2) else (mendS (withS q i (f q.dag.tasks[i] q.states[i]).1),0):=by
  unfold toldQ; rw [h]; simp [h1,h2]
theorem toldQ_none {f:Task→Stt→Stt×Int} {token:Int} {q:Rn} (h:fndS (holdP token) 0 q.states=none):toldQ f token q=(zR,191):=by unfold toldQ; rw [h]
def c210:C :=
  (.seq
 (.reg false [p (.box 5 (.v 0)),
 p (.box 1 (.v 2)),
 p (.box 1 (.v 3)),
 p (.alloc 5 (.agg [.str [],.str [],.fsl .nil 4 [],.int .i64 0,.fsl .nil 5 []])),
 p (.alloc 1 (.int .i64 0))] [(1,.v 1),(4,.r 4),(6,.r 3),(7,.r 2),(8,.r 1),(9,.r 0)])
 (.seq
 (.reg false [p (.load (some 5) (.v 4)),
 p (.mov (.v 1)),
 p (.call true (.k (.fn 163 [] [])) [.r 1,.r 0]),
 p (.mov (.r 0)),
 p (.ext (.r 0) 0),
 p (.ext (.r 1) 1),
 p (.store (some 5) (.v 4) (.r 1)),
 p (.mov (.r 1))] [(4,.v 4),(6,.v 6),(7,.v 7),(8,.v 8),(9,.v 9),(10,.r 0)])
 (.seq
 (.seq
 (.reg false [p (.mov (.v 10)),
 p (.bin .neq (.r 0) (.k (.int .i64 0)))] [(4,.v 4),(6,.v 6),(7,.v 7),(8,.v 8),(9,.v 9),(10,.v 10),(22,.r 0)])
 (.cond (.v 22)
 (.seq
 (.reg false [p (.build [.str [],.str [],.fsl .nil 4 [],.int .i64 0,.fsl .nil 5 []] []),
 p (.mov (.v 10)),
 p (.store (some 5) (.v 8) (.r 1)),
 p (.store (none) (.v 9) (.r 1))] [(8,.v 8),(9,.v 9)])
 .ret)
 .skip))
 (.seq
 (.seq
 (.reg false [p (.load (some 5) (.v 4)),
 p (.call true (.k (.fn 125 [] [])) [.r 0])] [(4,.v 4),(6,.v 6),(7,.v 7),(8,.v 8),(9,.v 9),(26,.r 0)])
 (.block 0
 (.rf (.v 26) [27,28]
 (.seq
 (.reg false [p (.mov (.v 27))] [(4,.v 4),(6,.v 6),(7,.v 7),(8,.v 8),(9,.v 9),(11,.r 0),(28,.v 28)])
 (.reg false [p (.alloc 5 (.agg [.int .i64 0,.int .i64 0,.int .i64 0,.int .i64 0,.str []])),
 p (.store (some 5) (.r 0) (.v 28))] [(4,.v 4),(6,.v 6),(7,.v 7),(8,.v 8),(9,.v 9),(11,.v 11),(12,.r 1)]))
 (.block 1
 (.seq
 (.seq
 (.reg false [p (.fad 0 (.v 12)),
 p (.load (none) (.r 0)),
 p (.bin .neq (.r 0) (.k (.int .i64 2))),
 p (.mov (.r 0)),
 ⟨.fad 3 (.v 12),some (0,false),[]⟩,
 ⟨.load (none) (.r 0),some (1,false),[]⟩,
 ⟨.load (none) (.v 6),some (2,false),[]⟩,
 ⟨.bin .neq (.r 1) (.r 0),some (3,false),[]⟩,
 p (.pick (.r 4) (.k (.bool true)) (.r 0))] [(4,.v 4),(7,.v 7),(8,.v 8),(9,.v 9),(11,.v 11),(12,.v 12),(37,.r 0)])
 (.cond (.v 37)
 (.exit 1)
 .skip))
 (.seq
 (.reg true [p (.load (none) (.v 7)),
 p (.fad 1 (.v 4)),
 p (.fad 1 (.r 0)),
 p (.load (none) (.r 0)),
 p (.mov (.v 11)),
 p (.iad 4 (.r 1) (.r 0)),
 p (.load (some 4) (.r 0)),
 p (.load (some 5) (.v 12)),
 p (.call false (.r 7) [.r 1,.r 0]),
 p (.mov (.r 0)),
 p (.ext (.r 0) 0),
 p (.ext (.r 1) 1),
 ⟨.alloc 5 (.agg [.int .i64 0,.int .i64 0,.int .i64 0,.int .i64 0,.str []]),none,[11,8,6,5,4,3]⟩,
 p (.store (some 5) (.r 0) (.r 2)),
 p (.mov (.r 2))] [(4,.v 4),(8,.v 8),(9,.v 9),(11,.v 11),(13,.r 2),(14,.r 0)])
 (.seq
 (.seq
 (.reg false [p (.mov (.v 14)),
 p (.bin .neq (.r 0) (.k (.int .i64 0)))] [(4,.v 4),(8,.v 8),(9,.v 9),(11,.v 11),(13,.v 13),(14,.v 14),(51,.r 0)])
 (.cond (.v 51)
 (.seq
 (.reg false [p (.build [.str [],.str [],.fsl .nil 4 [],.int .i64 0,.fsl .nil 5 []] []),
 p (.mov (.v 14)),
 p (.store (some 5) (.v 8) (.r 1)),
 p (.store (none) (.v 9) (.r 1))] [])
 .ret)
 .skip))
 (.seq
 (.reg false [p (.fad 4 (.v 4)),
 p (.load (none) (.r 0)),
 p (.call false (.k (.fn 206 [] [])) [.r 0]),
 p (.fad 4 (.v 4)),
 p (.store (none) (.r 0) (.r 1))] [(4,.v 4),(8,.v 8),(9,.v 9),(11,.v 11),(13,.v 13)])
 (.seq
 (.reg false [p (.fad 4 (.v 4)),
 p (.load (none) (.r 0)),
 p (.mov (.v 11)),
 p (.load (some 5) (.v 13)),
 p (.iad 5 (.r 2) (.r 1)),
 p (.store (some 5) (.r 0) (.r 1))] [(4,.v 4),(8,.v 8),(9,.v 9)])
 (.seq
 (.frz
 (.reg false [p (.load (some 5) (.v 4)),
 p (.call true (.k (.fn 200 [] [])) [.r 0]),
 p (.store (some 5) (.v 8) (.r 0)),
 p (.store (none) (.v 9) (.k (.int .i64 0)))] []))
 .ret))))))))))
 (.seq
 (.reg false [p (.build [.str [],.str [],.fsl .nil 4 [],.int .i64 0,.fsl .nil 5 []] []),
 p (.store (some 5) (.v 8) (.r 0)),
 p (.store (none) (.v 9) (.k (.int .i64 191)))] [(8,.v 8),(9,.v 9)])
 .ret)))))
def r210:List RV:=[.c 8 (some 5),.c 9 (none)]
theorem chk210:Chk Tryz.prog Tryz.f210 c210 r210:=⟨_,rfl,by kernel_rfl,by kernel_rfl⟩
theorem ena210:EnA Tryz.prog 210 66 c210 r210:=mkEnA (by kernel_rfl) Tryz.func210 (by kernel_rfl) chk210
def c211:C :=
  (.seq
 (.reg false [p (.box 4 (.v 0)),
 p (.box 5 (.v 1)),
 p (.alloc 5 (.agg [.int .i64 0,.int .i64 0,.int .i64 0,.int .i64 0,.str []])),
 p (.mov (.k (.int .i64 0)))] [(2,.v 2),(3,.r 3),(4,.r 2),(5,.r 1)])
 (.seq
 (.reg false [p (.load (some 4) (.v 3)),
 p (.load (some 5) (.v 4)),
 p (.load (none) (.v 2)),
 p (.call true (.k (.fn 212 [] [])) [.r 2,.r 1,.r 0]),
 p (.ext (.r 0) 0),
 p (.ext (.r 1) 1),
 p (.store (some 5) (.v 5) (.r 1)),
 p (.mov (.r 1))] [(5,.v 5),(6,.r 0)])
 .ret))
def r211:List RV:=[.c 5 (some 5),.t 6]
theorem chk211:Chk Tryz.prog Tryz.f211 c211 r211:=⟨_,rfl,by kernel_rfl,by kernel_rfl⟩
theorem ena211:EnA Tryz.prog 211 13 c211 r211:=mkEnA (by kernel_rfl) Tryz.func211 (by kernel_rfl) chk211
def c213:C :=
  (.seq
 (.reg false [p (.box 4 (.v 0)),
 p (.box 5 (.v 1)),
 p (.alloc 5 (.agg [.int .i64 0,.int .i64 0,.int .i64 0,.int .i64 0,.str []])),
 p (.mov (.k (.int .i64 0)))] [(2,.v 2),(3,.r 3),(4,.r 2),(5,.r 1)])
 (.seq
 (.reg false [p (.load (some 4) (.v 3)),
 p (.load (some 5) (.v 4)),
 p (.load (none) (.v 2)),
 p (.call true (.k (.fn 214 [] [])) [.r 2,.r 1,.r 0]),
 p (.ext (.r 0) 0),
 p (.ext (.r 1) 1),
 p (.store (some 5) (.v 5) (.r 1)),
 p (.mov (.r 1))] [(5,.v 5),(6,.r 0)])
 .ret))
def r213:List RV:=[.c 5 (some 5),.t 6]
theorem chk213:Chk Tryz.prog Tryz.f213 c213 r213:=⟨_,rfl,by kernel_rfl,by kernel_rfl⟩
theorem ena213:EnA Tryz.prog 213 13 c213 r213:=mkEnA (by kernel_rfl) Tryz.func213 (by kernel_rfl) chk213
def c215:C :=
  (.seq
 (.reg false [p (.box 4 (.v 0)),
 p (.box 5 (.v 1)),
 p (.alloc 5 (.agg [.int .i64 0,.int .i64 0,.int .i64 0,.int .i64 0,.str []])),
 p (.mov (.k (.int .i64 0)))] [(2,.v 2),(3,.r 3),(4,.r 2),(5,.r 1)])
 (.seq
 (.reg false [p (.load (some 4) (.v 3)),
 p (.load (some 5) (.v 4)),
 p (.load (none) (.v 2)),
 p (.call true (.k (.fn 216 [] [])) [.r 2,.r 1,.r 0]),
 p (.ext (.r 0) 0),
 p (.ext (.r 1) 1),
 p (.store (some 5) (.v 5) (.r 1)),
 p (.mov (.r 1))] [(5,.v 5),(6,.r 0)])
 .ret))
def r215:List RV:=[.c 5 (some 5),.t 6]
theorem chk215:Chk Tryz.prog Tryz.f215 c215 r215:=⟨_,rfl,by kernel_rfl,by kernel_rfl⟩
theorem ena215:EnA Tryz.prog 215 13 c215 r215:=mkEnA (by kernel_rfl) Tryz.func215 (by kernel_rfl) chk215
def c157:C :=
  (.seq
 (.reg false [p (.box 5 (.v 0)),
 p (.box 1 (.v 1)),
 p (.alloc 5 (.agg [.str [],.str [],.fsl .nil 4 [],.int .i64 0,.fsl .nil 5 []])),
 p (.mov (.k (.int .i64 0)))] [(2,.v 2),(3,.r 3),(4,.r 2),(6,.r 1)])
 (.seq
 (.reg false [p (.load (some 5) (.v 3)),
 p (.load (none) (.v 4)),
 p (.mov (.v 2)),
 p (.mkf 211 [] [.v 4]),
 p (.call false (.k (.fn 210 [] [])) [.r 3,.r 2,.r 1,.r 0]),
 p (.ext (.r 0) 0),
 p (.ext (.r 1) 1),
 p (.store (some 5) (.v 6) (.r 1)),
 p (.mov (.r 1))] [(6,.v 6),(7,.r 0)])
 .ret))
def r157:List RV:=[.c 6 (some 5),.t 7]
theorem en157:EnP Tryz.prog 157 15 c157 r157:=mkEnP (by kernel_rfl) Tryz.func157 (by kernel_rfl) ⟨_,rfl,by kernel_rfl,by kernel_rfl⟩
def c159:C :=
  (.seq
 (.reg false [p (.box 5 (.v 0)),
 p (.box 1 (.v 3)),
 p (.alloc 5 (.agg [.str [],.str [],.fsl .nil 4 [],.int .i64 0,.fsl .nil 5 []])),
 p (.mov (.k (.int .i64 0)))] [(1,.v 1),(2,.v 2),(4,.r 3),(7,.r 2),(8,.r 1)])
 (.seq
 (.reg false [p (.load (some 5) (.v 4)),
 p (.mov (.v 1)),
 p (.mov (.v 2)),
 p (.mkf 213 [] [.v 7]),
 p (.call false (.k (.fn 210 [] [])) [.r 3,.r 2,.r 1,.r 0]),
 p (.ext (.r 0) 0),
 p (.ext (.r 1) 1),
 p (.store (some 5) (.v 8) (.r 1)),
 p (.mov (.r 1))] [(8,.v 8),(9,.r 0)])
 .ret))
def r159:List RV:=[.c 8 (some 5),.t 9]
theorem en159:EnP Tryz.prog 159 17 c159 r159:=mkEnP (by kernel_rfl) Tryz.func159 (by kernel_rfl) ⟨_,rfl,by kernel_rfl,by kernel_rfl⟩
def c161:C :=
  (.seq
 (.reg false [p (.box 5 (.v 0)),
 p (.box 1 (.v 1)),
 p (.alloc 5 (.agg [.str [],.str [],.fsl .nil 4 [],.int .i64 0,.fsl .nil 5 []])),
 p (.mov (.k (.int .i64 0)))] [(2,.v 2),(3,.r 3),(4,.r 2),(6,.r 1)])
 (.seq
 (.reg false [p (.load (some 5) (.v 3)),
 p (.load (none) (.v 4)),
 p (.mov (.v 2)),
 p (.mkf 215 [] [.v 4]),
 p (.call false (.k (.fn 210 [] [])) [.r 3,.r 2,.r 1,.r 0]),
 p (.ext (.r 0) 0),
 p (.ext (.r 1) 1),
 p (.store (some 5) (.v 6) (.r 1)),
 p (.mov (.r 1))] [(6,.v 6),(7,.r 0)])
 .ret))
def r161:List RV:=[.c 6 (some 5),.t 7]
theorem en161:EnP Tryz.prog 161 15 c161 r161:=mkEnP (by kernel_rfl) Tryz.func161 (by kernel_rfl) ⟨_,rfl,by kernel_rfl,by kernel_rfl⟩
end Go.Proofs.YtkdeckmglbnfbaaGreat.Ev
