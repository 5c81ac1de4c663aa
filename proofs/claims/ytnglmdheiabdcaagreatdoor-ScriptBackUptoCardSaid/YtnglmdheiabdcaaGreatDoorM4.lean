/-
  Part 4 of what the proof of the statement ScriptBackUpto leans on: the evaluator, the functions in compact form, and what they answer.
-/
import Derived.Test.YtnglmdheiabdcaaGreatDoorM3
import Derived.Shelf.Strings.Cut
import Derived.Shelf.Strings.Split
import Derived.Shelf.Strconv.AtoiAll
import Derived.Test.YtnglmdheiabdcaaGreatDoorProg
import Derived.KernelRfl
import Derived.Shelf.Strings.Builder1
import Derived.WalkKit
import Derived.LoopTactic
set_option linter.unusedSimpArgs false
set_option linter.unusedVariables false
set_option maxRecDepth 10000
namespace Go.Proofs.YtnglmdheiabdcaaGreatDoor.Ev
open Go
section
open Go Go.RowKit
def maxT (cs:List Value):Prop:=∃ m,cs=[Value.int .i64 m]
def errT (cs:List Value):Prop:=∃ ev,cs=[ev]∧(ev=Value.nilIface∨∃ te pe,ev=Value.iface te pe)
theorem tab_cell {g:G} {m:Hm} {w:World} (hs:RS g m w) {gi:Nat} {p:List Value→Prop} (hin:(gi,p)∈theTabs):∃ cs,p cs∧∀ j v,cs[j]?=some v→w.cell? ⟨gi,j,none⟩=some v:=by
  obtain ⟨cs,hF,hp⟩:=hs.tab _ hin
  obtain ⟨e,fr,hh⟩:=hs.fro _ _ hF
  exact ⟨cs,hp,fun j v hj => by simp [World.cell?,hh,hj]⟩
theorem cut_p {P:Program} {ρ:Shelf.Ren} (L:Lays.n145 P ρ) (hb:HasBody P (ρ.f 145)) (hin:(ρ.g 1,maxT)∈theTabs) (s:Str) (c:UInt8) (hl:s.length < 4294967281) :
    PCall P (ρ.f 145) [.str s,.str [c]] (.tup [.str (cutC c s).1,.str (cutC c s).2.1,.bool (cutC c s).2.2]):=by
  refine .of_below hb fun g m w xs hs hx => ?_
  simp only [RC,R] at hx
  obtain ⟨y,ys,e1,rfl,z,zs,rfl,rfl,rfl⟩:=hx
  obtain rfl:xs=#[.string ⟨s.toArray⟩,.string ⟨[c].toArray⟩]:=by apply Array.ext'; simpa using e1
  obtain ⟨cs,⟨m0,rfl⟩,hc⟩:=tab_cell hs hin
  refine (Any.strings_Cut L ⟨s.toArray⟩ ⟨[c].toArray⟩ m0 w (by simpa [ByteArray.size] using hl) (hc 0 _ rfl)).mono ?_
  rintro e w' ⟨rfl,n,rfl⟩
  refine ⟨_,rfl, ?_,⟨rfl,rfl,rfl,Nat.le_refl _,fun _ _ => rfl⟩⟩
  have hcut:Lib.cut s [c]=cutC c s:=cut_c c s
  simp only [hcut,R,RC]
  exact ⟨_,rfl,_,_,rfl,rfl,_,_,rfl,rfl,_,_,rfl,rfl,rfl⟩
theorem bytes_list (l:List ByteArray):(l.map (·.data.toList)).map (fun s:Str => (⟨s.toArray⟩:ByteArray))=l:=by
  induction l with
  | nil => rfl
  | cons a l ih => simp only [List.map_cons,ih]
theorem split_p {P:Program} {ρ:Shelf.Ren} (L:Lays.n146 P ρ) (hb:HasBody P (ρ.f 146)) (hin:(ρ.g 1,maxT)∈theTabs) (hi9:(P.info? (ρ.t 9)).map (fun i => (i.zero,i.size,i.bytes))=some (some (.string ByteArray.empty),1,16)) (s:Str) (c:UInt8) (hl:s.length < 4294967281) :
    PCall P (ρ.f 146) [.str s,.str [c]] (.fsl .full 1 (vS (splitC c s))):=by
  refine ⟨hb,fun m g w xs hs hx => ?_⟩
  simp only [RC,R] at hx
  obtain ⟨y,ys,e1,rfl,z,zs,rfl,rfl,rfl⟩:=hx
  obtain rfl:xs=#[.string ⟨s.toArray⟩,.string ⟨[c].toArray⟩]:=by apply Array.ext'; simpa using e1
  obtain ⟨cs,⟨m0,rfl⟩,hc⟩:=tab_cell hs hin
  refine (Any.strings_Split L hi9 ⟨s.toArray⟩ ⟨[c].toArray⟩ m0 w (by simpa [ByteArray.size] using hl) (hc 0 _ rfl) (by simp [ByteArray.size])).mono ?_
  rintro e w' ⟨rfl,rfl⟩
  have hlen:=Lib.splitB_all ⟨[c].toArray⟩ (by simp [ByteArray.size]) 0 _ ⟨s.toArray⟩ rfl
  have hk:(Lib.splitB ⟨[c].toArray⟩ 0 (Lib.countB ⟨s.toArray⟩ ⟨[c].toArray⟩) ⟨s.toArray⟩).map (·.data.toList)=splitC c s:=by
    rw [Lib.splitB_data]
    exact count_c c (s.length+1) s (by omega) _ (Nat.le_refl _)
  have hv:(Lib.splitB ⟨[c].toArray⟩ 0 (Lib.countB ⟨s.toArray⟩ ⟨[c].toArray⟩) ⟨s.toArray⟩).map Value.string=(splitC c s).map fun s:Str => Value.string ⟨s.toArray⟩:=by
    rw [← hk,List.map_map]
    conv => lhs; rw [← bytes_list (Lib.splitB ⟨[c].toArray⟩ 0 (Lib.countB ⟨s.toArray⟩ ⟨[c].toArray⟩) ⟨s.toArray⟩)]
    simp [List.map_map,Function.comp_def]
  have hn:(splitC c s).length=Lib.countB ⟨s.toArray⟩ ⟨[c].toArray⟩+1:=by rw [← hk,List.length_map]; exact hlen
  rw [hv,← hn]
  obtain ⟨h1,h2⟩:=hs.new_froze (w':=w.alloc (.cells ((splitC c s).map fun s:Str => Value.string ⟨s.toArray⟩).toArray (ρ.t 9))) ⟨rfl,rfl,rfl⟩ rfl
  refine ⟨_,(g.froze w.heap.size ((splitC c s).map fun s:Str => Value.string ⟨s.toArray⟩).toArray.toList).F,rfl, ?_,h1,h2⟩
  simp only [R]
  refine ⟨some ⟨w.heap.size,0,none⟩,(splitC c s).length,(splitC c s).map fun s:Str => Value.string ⟨s.toArray⟩,by rw [vS_len'], ?_, ?_,by rw [vS_len']; exact Nat.le_refl _,by simp,by simp,by rw [vS_len']; simp,.inr ⟨_,_,rfl,[],[],by simp [G.froze],rfl⟩⟩
  · have:∀ l:List Str,RL (⟨g.ι,(g.froze w.heap.size ((splitC c s).map fun s:Str => Value.string ⟨s.toArray⟩).toArray.toList).F⟩:G) (vS l) (l.map fun s:Str => Value.string ⟨s.toArray⟩):=by
      intro l
      induction l with
      | nil => simp [vS,mv,RL]
      | cons a l ih => simp only [vS,mv,List.map_cons,RL] at ih ⊢; exact ⟨.string ⟨a.toArray⟩,_,rfl,⟨rfl,by simp [R]⟩,ih⟩
    exact this _
  · intro v hv; obtain ⟨a,_,rfl⟩:=mv_mem hv; rfl
def atoiV (T:Nat) (s:Str):V:=match Lib.atoiAll s with
  | .ok v => .tup [.int .i64 v,.nili]
  | Lib.NumEnd.syntax => .tup [.int .i64 0,.ifc T .jk]
  | Lib.NumEnd.range => .tup [.int .i64 (Lib.atoiSat s),.ifc T .jk]
theorem atoi_p {P:Program} {ρ:Shelf.Ren} (L:LaysC.n172 P ρ) (hb:HasBody P (ρ.f 172)) (h15:(ρ.g 15,errT)∈theTabs) (h16:(ρ.g 16,errT)∈theTabs) (s:Str) (hl:s.length≤281474976710656) :
    PCall P (ρ.f 172) [.str s] (atoiV (ρ.t 168) s):=by
  refine .of_below hb fun g m w xs hs hx => ?_
  simp only [RC,R] at hx
  obtain ⟨y,ys,e1,rfl,rfl⟩:=hx
  obtain rfl:xs=#[.string ⟨s.toArray⟩]:=by apply Array.ext'; simpa using e1
  have hsz:(⟨s.toArray⟩:ByteArray).size=s.length:=by simp [ByteArray.size]
  obtain ⟨cs1,⟨ev1,rfl,he1⟩,hc1⟩:=tab_cell hs h15
  obtain ⟨cs2,⟨ev2,rfl,he2⟩,hc2⟩:=tab_cell hs h16
  unfold atoiV
  rcases ha:Lib.atoiAll s with v | _ | _
  ·
    refine (Any.strconv_Atoi_ok L ⟨s.toArray⟩ (by rw [hsz]; omega) v ha w).mono ?_
    rintro e w' ⟨rfl,hw⟩
    refine ⟨_,rfl, ?_, ?_⟩
    · simp only [R,RC]; exact ⟨_,rfl,_,_,rfl,rfl,_,_,rfl,rfl,rfl⟩
    · rcases hw with rfl | ⟨t,rfl⟩
      · exact .refl _ _
      · exact Lib.bytesWorld_below _ _ _
  ·
    refine (Any.strconv_Atoi_syntax L ⟨s.toArray⟩ (by rw [hsz]; omega) ha ev1 w (hc1 0 _ rfl) he1).mono ?_
    rintro e w' ⟨N,rfl,_,_,hw⟩
    refine ⟨_,rfl, ?_,hw⟩
    simp only [R,RC]; exact ⟨_,rfl,_,_,rfl,rfl,_,_,rfl,⟨_,rfl,rfl⟩,rfl⟩
  ·
    refine (Any.strconv_Atoi_range L ⟨s.toArray⟩ (by rw [hsz]; omega) ha ev2 w (hc2 0 _ rfl) he2).mono ?_
    rintro e w' ⟨N,rfl,_,_,hw⟩
    refine ⟨_,rfl, ?_,hw⟩
    simp only [R,RC]; exact ⟨_,rfl,_,_,rfl,rfl,_,_,rfl,⟨_,rfl,rfl⟩,rfl⟩
theorem p_cut (s:Str) (c:UInt8) (hl:s.length < 4294967281):PCall Tryz.prog 12 [.str s,.str [c]] (.tup [.str (cutC c s).1,.str (cutC c s).2.1,.bool (cutC c s).2.2]) :=
  cut_p (ρ:=ren_cut) lays_cut ⟨Tryz.f12,Tryz.func12,rfl,by kernel_rfl⟩ (by repeat (first | exact List.mem_cons_self | apply List.mem_cons_of_mem)) s c hl
theorem p_split (s:Str) (c:UInt8) (hl:s.length < 4294967281):PCall Tryz.prog 35 [.str s,.str [c]] (.fsl .full 1 (vS (splitC c s))) :=
  split_p (ρ:=ren_split) lays_split ⟨Tryz.f35,Tryz.func35,rfl,by kernel_rfl⟩ (by repeat (first | exact List.mem_cons_self | apply List.mem_cons_of_mem)) (by kernel_rfl) s c hl
theorem p_atoi (s:Str) (hl:s.length≤281474976710656):PCall Tryz.prog 34 [.str s] (atoiV (ren_atoi.t 168) s) :=
  atoi_p (ρ:=ren_atoi) lays_atoi ⟨Tryz.f34,Tryz.func34,rfl,by kernel_rfl⟩ (by repeat (first | exact List.mem_cons_self | apply List.mem_cons_of_mem)) (by repeat (first | exact List.mem_cons_self | apply List.mem_cons_of_mem)) s hl
end
def c14:C :=
  (.seq
 (.reg false [p (.mov (.k (.int .i64 0)))] [(0,.v 0)])
 (.seq
 (.reg false [p (.mov (.v 0)),
 p (.call true (.k (.fn 34 [] [])) [.r 0]),
 p (.mov (.r 0)),
 p (.ext (.r 0) 0),
 p (.ext (.r 1) 1),
 p (.mov (.r 1)),
 p (.mov (.r 1))] [(0,.v 0),(3,.r 1),(4,.r 0)])
 (.seq
 (.seq
 (.reg false [p (.mov (.v 4)),
 p (.eqn true .i (.r 0)),
 p (.mov (.r 0)),
 ⟨.mov (.v 3),some (0,false),[]⟩,
 ⟨.bin .lss (.r 0) (.k (.int .i64 0)),some (1,false),[]⟩,
 p (.pick (.r 2) (.k (.bool true)) (.r 0)),
 p (.mov (.r 0)),
 ⟨.mov (.v 3),some (0,false),[]⟩,
 ⟨.call true (.k (.fn 27 [] [])) [.r 0],some (1,false),[]⟩,
 ⟨.mov (.v 0),some (2,false),[]⟩,
 ⟨.bin .neq (.r 1) (.r 0),some (3,false),[]⟩,
 p (.pick (.r 4) (.k (.bool true)) (.r 0))] [(3,.v 3),(21,.r 0)])
 (.cond (.v 21)
 (.seq
 (.reg false [p (.mov (.k (.int .i64 (-1))))] [(2,.r 0)])
 .ret)
 .skip))
 (.seq
 (.reg false [p (.mov (.v 3)),
 p (.mov (.r 0))] [(2,.r 0)])
 .ret))))
def r14:List RV:=[.t 2]
theorem en14:EnP Tryz.prog 14 23 c14 r14:=mkEnP (by kernel_rfl) Tryz.func14 (by kernel_rfl) ⟨_,rfl,by kernel_rfl,by kernel_rfl⟩
def c37:C :=
  (.seq
 (.reg false [p (.alloc 4 (.agg [.fsl .nil 1 [],.int .i64 0,.int .i64 0,.int .i64 0])),
 p (.mov (.k (.bool false)))] [(0,.v 0),(2,.r 1)])
 (.seq
 (.reg false [p (.mov (.k (.fsl .nil 1 [])))] [(0,.v 0),(2,.v 2),(4,.r 0)])
 (.seq
 (.seq
 (.reg false [p (.mov (.v 0)),
 p (.call true (.k (.fn 35 [] [])) [.r 0,.k (.str [44])]),
 p (.len false (.r 0)),
 p (.mov (.k (.int .i64 0)))] [(2,.v 2),(4,.v 4),(10,.r 2),(11,.r 1),(12,.r 0)])
 (.block 0
 (.loop
 (.seq
 (.reg false [p (.bin .lss (.v 12) (.v 11))] [(2,.v 2),(4,.v 4),(10,.v 10),(11,.v 11),(12,.v 12),(13,.r 0)])
 (.seq
 (.cond (.v 13)
 .skip
 (.exit 0))
 (.seq
 (.block 1
 (.seq
 (.reg false [p (.iad 1 (.v 10) (.v 12)),
 p (.load (none) (.r 0)),
 p (.mov (.r 0))] [(2,.v 2),(4,.v 4),(6,.r 0),(10,.v 10),(11,.v 11),(12,.v 12)])
 (.seq
 (.reg false [p (.mov (.v 6)),
 p (.call true (.k (.fn 14 [] [])) [.r 0]),
 p (.mov (.r 0))] [(2,.v 2),(4,.v 4),(7,.r 0),(10,.v 10),(11,.v 11),(12,.v 12)])
 (.seq
 (.seq
 (.reg false [p (.mov (.v 7)),
 p (.bin .lss (.r 0) (.k (.int .i64 0)))] [(2,.v 2),(4,.v 4),(7,.v 7),(10,.v 10),(11,.v 11),(12,.v 12),(19,.r 0)])
 (.cond (.v 19)
 (.seq
 (.reg false [p (.build [.fsl .nil 1 [],.int .i64 0,.int .i64 0,.int .i64 0] []),
 p (.store (some 4) (.v 2) (.r 0)),
 p (.mov (.k (.bool false)))] [(2,.v 2),(3,.r 0)])
 .ret)
 .skip))
 (.reg false [p (.mov (.v 4)),
 p (.mov (.v 7)),
 p (.bsl 1 [.r 0]),
 p (.app 1 8 (.r 2) (.r 0)),
 p (.mov (.r 0))] [(2,.v 2),(4,.r 0),(10,.v 10),(11,.v 11),(12,.v 12)])))))
 (.reg false [p (.bin .add (.v 12) (.k (.int .i64 1))),
 p (.mov (.r 0))] [(2,.v 2),(4,.v 4),(10,.v 10),(11,.v 11),(12,.r 0)])))))))
 (.frz
 (.seq
 (.seq
 (.reg false [p (.mov (.v 4)),
 p (.len false (.r 0)),
 p (.bin .lss (.r 0) (.k (.int .i64 3)))] [(2,.v 2),(4,.v 4),(28,.r 0)])
 (.cond (.v 28)
 (.seq
 (.reg false [p (.build [.fsl .nil 1 [],.int .i64 0,.int .i64 0,.int .i64 0] []),
 p (.store (some 4) (.v 2) (.r 0)),
 p (.mov (.k (.bool false)))] [(2,.v 2),(3,.r 0)])
 .ret)
 .skip))
 (.seq
 (.reg true [p (.mov (.v 4)),
 p (.iad 1 (.r 0) (.k (.int .i64 0))),
 p (.load (none) (.r 0)),
 p (.mov (.v 4)),
 p (.iad 1 (.r 0) (.k (.int .i64 1))),
 p (.load (none) (.r 0)),
 p (.mov (.v 4)),
 p (.iad 1 (.r 0) (.k (.int .i64 2))),
 p (.load (none) (.r 0)),
 p (.build [.fsl .nil 1 [],.int .i64 0,.int .i64 0,.int .i64 0] [(1,1,.r 6),(2,1,.r 3),(3,1,.r 0)]),
 ⟨.alloc 4 (.agg [.fsl .nil 1 [],.int .i64 0,.int .i64 0,.int .i64 0]),none,[8,7,5,4,2,1]⟩,
 p (.store (some 4) (.r 0) (.r 1))] [(2,.v 2),(4,.v 4),(8,.r 1)])
 (.seq
 (.seq
 (.reg false [p (.mov (.v 4)),
 p (.len false (.r 0)),
 p (.bin .gtr (.r 0) (.k (.int .i64 3)))] [(2,.v 2),(4,.v 4),(8,.v 8),(42,.r 0)])
 (.cond (.v 42)
 (.reg false [p (.mov (.v 4)),
 p (.slc 1 (.r 0) (some (.k (.int .i64 3))) none none),
 p (.fad 0 (.v 8)),
 p (.store (none) (.r 0) (.r 1))] [(2,.v 2),(8,.v 8)])
 .skip))
 (.seq
 (.reg false [p (.load (some 4) (.v 8)),
 p (.store (some 4) (.v 2) (.r 0)),
 p (.mov (.k (.bool true)))] [(2,.v 2),(3,.r 0)])
 .ret))))))))
def r37:List RV:=[.c 2 (some 4),.t 3]
theorem en37:EnP Tryz.prog 37 47 c37 r37:=mkEnP (by kernel_rfl) Tryz.func37 (by kernel_rfl) ⟨_,rfl,by kernel_rfl,by kernel_rfl⟩
def c36:C :=
  (.seq
 (.reg false [p (.mov (.k (.str [])))] [(0,.v 0)])
 (.seq
 (.seq
 (.reg false [p (.load (none) (.v 0)),
 p (.len false (.r 0)),
 p (.bin .eql (.r 0) (.k (.int .i64 0)))] [(0,.v 0),(5,.r 0)])
 (.cond (.v 5)
 (.seq
 (.reg false [p (.mov (.k (.str [])))] [(1,.r 0)])
 .ret)
 .skip))
 (.seq
 (.reg false [p (.load (none) (.v 0)),
 p (.iad 1 (.r 0) (.k (.int .i64 0))),
 p (.load (none) (.r 0)),
 p (.mov (.r 0))] [(0,.v 0),(2,.r 0)])
 (.seq
 (.reg false [p (.load (none) (.v 0)),
 p (.slc 1 (.r 0) (some (.k (.int .i64 1))) none none),
 p (.store (none) (.v 0) (.r 0))] [(2,.v 2)])
 (.seq
 (.reg false [p (.mov (.v 2)),
 p (.mov (.r 0))] [(1,.r 0)])
 .ret)))))
def r36:List RV:=[.t 1]
theorem chk36:Chk Tryz.prog Tryz.f36 c36 r36:=⟨_,rfl,by kernel_rfl,by kernel_rfl⟩
theorem ena36:EnA Tryz.prog 36 12 c36 r36:=mkEnA (by kernel_rfl) Tryz.func36 (by kernel_rfl) chk36
def c15:C :=
  (.seq
 (.reg false [p (.alloc 11 (.agg [.int .i64 0,.str [],.str [],.int .i64 0,.int .i64 0,.str [],.str [],.fsl .nil 4 [],.bool false,.bool false,.fsl .nil 1 []])),
 p (.mov (.k (.bool false)))] [(0,.v 0),(2,.r 1)])
 (.seq
 (.reg false [p (.mov (.v 0)),
 p (.call true (.k (.fn 35 [] [])) [.r 0,.k (.str [32])]),
 p (.mov (.r 0))] [(2,.v 2),(4,.r 0)])
 (.seq
 (.reg true [p (.mov (.v 4)),
 p (.iad 1 (.r 0) (.k (.int .i64 0))),
 p (.load (none) (.r 0)),
 p (.mov (.v 4)),
 p (.slc 1 (.r 0) (some (.k (.int .i64 1))) none none),
 ⟨.alloc 1 (.fsl .nil 1 []),none,[3,2,0]⟩,
 p (.mov (.r 3)),
 p (.store (none) (.r 1) (.r 2))] [(2,.v 2),(5,.r 1),(6,.r 2)])
 (.seq
 (.reg false [p (.mkf 36 [] [.v 6]),
 p (.mov (.r 0))] [(2,.v 2),(5,.v 5),(6,.v 6),(7,.r 0)])
 (.seq
 (.reg false [p (.alloc 11 (.agg [.int .i64 0,.str [],.str [],.int .i64 0,.int .i64 0,.str [],.str [],.fsl .nil 4 [],.bool false,.bool false,.fsl .nil 1 []]))] [(2,.v 2),(5,.v 5),(6,.v 6),(7,.v 7),(8,.r 0)])
 (.seq
 (.reg false [p (.fad 0 (.v 8)),
 p (.mov (.r 0))] [(2,.v 2),(5,.v 5),(6,.v 6),(7,.v 7),(8,.v 8),(9,.r 0)])
 (.seq
 (.seq
 (.reg false [p (.mov (.v 5))] [(2,.v 2),(6,.v 6),(7,.v 7),(8,.v 8),(9,.v 9),(21,.r 0)])
 (.block 0
 (.seq
 (.reg false [p (.bin .eql (.v 21) (.k (.str [99,114,97,115,104]))),
 p (.mov (.r 0))] [(2,.v 2),(6,.v 6),(7,.v 7),(8,.v 8),(9,.v 9),(21,.v 21),(23,.r 0)])
 (.cond (.v 23)
 (.seq
 (.reg false [p (.fad 9 (.v 8)),
 p (.store (none) (.r 0) (.k (.bool true)))] [(2,.v 2),(6,.v 6),(7,.v 7),(8,.v 8)])
 (.block 1
 (.loop
 (.seq
 (.seq
 (.reg false [p (.load (none) (.v 6)),
 p (.len false (.r 0)),
 p (.bin .gtr (.r 0) (.k (.int .i64 0)))] [(2,.v 2),(6,.v 6),(7,.v 7),(8,.v 8),(28,.r 0)])
 (.cond (.v 28)
 .skip
 (.exit 1)))
 (.block 2
 (.reg true [p (.fad 10 (.v 8)),
 p (.load (none) (.r 0)),
 p (.mov (.v 7)),
 ⟨.call false (.r 0) [],none,[1]⟩,
 p (.call true (.k (.fn 14 [] [])) [.r 0]),
 p (.bsl 1 [.r 0]),
 p (.app 1 8 (.r 4) (.r 0)),
 p (.fad 10 (.v 8)),
 p (.store (none) (.r 0) (.r 1))] [(2,.v 2),(6,.v 6),(7,.v 7),(8,.v 8)]))))))
 (.seq
 (.reg false [p (.bin .eql (.v 21) (.k (.str [99,104,101,99,107]))),
 p (.mov (.r 0))] [(2,.v 2),(6,.v 6),(7,.v 7),(8,.v 8),(9,.v 9),(21,.v 21),(37,.r 0)])
 (.cond (.v 37)
 (.reg false [p (.fad 8 (.v 8)),
 p (.store (none) (.r 0) (.k (.bool true)))] [(2,.v 2),(6,.v 6),(8,.v 8)])
 (.seq
 (.reg false [p (.bin .eql (.v 21) (.k (.str [103,114,97,112,104]))),
 p (.mov (.r 0))] [(2,.v 2),(6,.v 6),(7,.v 7),(8,.v 8),(9,.v 9),(21,.v 21),(40,.r 0)])
 (.cond (.v 40)
 (.seq
 (.reg false [p (.mov (.v 9)),
 p (.mov (.v 9)),
 p (.mov (.v 7)),
 p (.call false (.r 0) []),
 p (.nck (.r 3)),
 p (.fad 0 (.r 0)),
 p (.store (none) (.r 0) (.k (.int .i64 1))),
 p (.nck (.r 5)),
 p (.fad 6 (.r 0)),
 p (.fad 0 (.r 0)),
 p (.store (none) (.r 0) (.r 6))] [(2,.v 2),(6,.v 6),(7,.v 7),(8,.v 8),(9,.v 9)])
 (.block 3
 (.loop
 (.seq
 (.seq
 (.reg false [p (.load (none) (.v 6)),
 p (.len false (.r 0)),
 p (.bin .gtr (.r 0) (.k (.int .i64 0)))] [(2,.v 2),(6,.v 6),(7,.v 7),(8,.v 8),(9,.v 9),(53,.r 0)])
 (.cond (.v 53)
 .skip
 (.exit 3)))
 (.block 4
 (.seq
 (.reg false [p (.mov (.v 7)),
 p (.call false (.r 0) []),
 p (.call true (.k (.fn 37 [] [])) [.r 0]),
 p (.mov (.r 0)),
 p (.ext (.r 0) 0),
 p (.ext (.r 1) 1),
 p (.alloc 4 (.agg [.fsl .nil 1 [],.int .i64 0,.int .i64 0,.int .i64 0])),
 p (.store (some 4) (.r 0) (.r 2)),
 p (.mov (.r 2))] [(2,.v 2),(6,.v 6),(7,.v 7),(8,.v 8),(9,.v 9),(10,.r 2),(11,.r 0)])
 (.seq
 (.seq
 (.reg false [p (.mov (.v 11)),
 p (.un .not (.r 0))] [(2,.v 2),(6,.v 6),(7,.v 7),(8,.v 8),(9,.v 9),(10,.v 10),(61,.r 0)])
 (.cond (.v 61)
 (.seq
 (.reg false [p (.build [.int .i64 0,.str [],.str [],.int .i64 0,.int .i64 0,.str [],.str [],.fsl .nil 4 [],.bool false,.bool false,.fsl .nil 1 []] []),
 p (.store (some 11) (.v 2) (.r 0)),
 p (.mov (.k (.bool false)))] [(2,.v 2),(3,.r 0)])
 .ret)
 .skip))
 (.reg true [p (.mov (.v 9)),
 p (.mov (.v 9)),
 p (.nck (.r 0)),
 p (.fad 6 (.r 0)),
 p (.fad 1 (.r 0)),
 p (.load (none) (.r 0)),
 p (.load (some 4) (.v 10)),
 p (.bsl 4 [.r 0]),
 p (.app 4 48 (.r 2) (.r 0)),
 p (.nck (.r 8)),
 p (.fad 6 (.r 0)),
 p (.fad 1 (.r 0)),
 p (.store (none) (.r 0) (.r 3))] [(2,.v 2),(6,.v 6),(7,.v 7),(8,.v 8),(9,.v 9)]))))))))
 (.seq
 (.reg false [p (.bin .eql (.v 21) (.k (.str [115,116,97,114,116]))),
 p (.mov (.r 0))] [(2,.v 2),(6,.v 6),(7,.v 7),(8,.v 8),(9,.v 9),(21,.v 21),(75,.r 0)])
 (.cond (.v 75)
 (.seq
 (.reg false [p (.mov (.v 9)),
 p (.mov (.v 9)),
 p (.mov (.v 7)),
 p (.call false (.r 0) []),
 p (.nck (.r 3)),
 p (.fad 0 (.r 0)),
 p (.store (none) (.r 0) (.k (.int .i64 2))),
 p (.nck (.r 5)),
 p (.fad 1 (.r 0)),
 p (.store (none) (.r 0) (.r 5))] [(2,.v 2),(6,.v 6),(7,.v 7),(8,.v 8),(9,.v 9)])
 (.reg false [p (.mov (.v 9)),
 p (.mov (.v 7)),
 p (.call false (.r 0) []),
 p (.nck (.r 2)),
 p (.fad 2 (.r 0)),
 p (.store (none) (.r 0) (.r 2))] [(2,.v 2),(6,.v 6),(8,.v 8)]))
 (.seq
 (.reg false [p (.bin .eql (.v 21) (.k (.str [112,111,108,108]))),
 p (.mov (.r 0))] [(2,.v 2),(6,.v 6),(7,.v 7),(8,.v 8),(9,.v 9),(21,.v 21),(90,.r 0)])
 (.cond (.v 90)
 (.reg false [p (.mov (.v 9)),
 p (.nck (.r 0)),
 p (.fad 0 (.r 0)),
 p (.store (none) (.r 0) (.k (.int .i64 3)))] [(2,.v 2),(6,.v 6),(8,.v 8)])
 (.seq
 (.reg false [p (.bin .eql (.v 21) (.k (.str [98,101,97,116]))),
 p (.mov (.r 0))] [(2,.v 2),(6,.v 6),(7,.v 7),(8,.v 8),(9,.v 9),(21,.v 21),(95,.r 0)])
 (.cond (.v 95)
 (.reg false [p (.mov (.v 9)),
 p (.mov (.v 9)),
 p (.mov (.v 7)),
 p (.call false (.r 0) []),
 p (.call true (.k (.fn 14 [] [])) [.r 0]),
 p (.nck (.r 4)),
 p (.fad 0 (.r 0)),
 p (.store (none) (.r 0) (.k (.int .i64 4))),
 p (.nck (.r 6)),
 p (.fad 3 (.r 0)),
 p (.store (none) (.r 0) (.r 5))] [(2,.v 2),(6,.v 6),(8,.v 8)])
 (.seq
 (.reg false [p (.bin .eql (.v 21) (.k (.str [100,111,110,101]))),
 p (.mov (.r 0))] [(2,.v 2),(6,.v 6),(7,.v 7),(8,.v 8),(9,.v 9),(21,.v 21),(106,.r 0)])
 (.cond (.v 106)
 (.seq
 (.reg false [p (.mov (.v 9)),
 p (.mov (.v 9)),
 p (.mov (.v 7)),
 p (.call false (.r 0) []),
 p (.call true (.k (.fn 14 [] [])) [.r 0]),
 p (.nck (.r 4)),
 p (.fad 0 (.r 0)),
 p (.store (none) (.r 0) (.k (.int .i64 5))),
 p (.nck (.r 6)),
 p (.fad 3 (.r 0)),
 p (.store (none) (.r 0) (.r 5))] [(2,.v 2),(6,.v 6),(7,.v 7),(8,.v 8),(9,.v 9)])
 (.seq
 (.reg false [p (.load (none) (.v 6)),
 p (.len false (.r 0)),
 p (.bin .gtr (.r 0) (.k (.int .i64 0)))] [(2,.v 2),(6,.v 6),(7,.v 7),(8,.v 8),(9,.v 9),(119,.r 0)])
 (.cond (.v 119)
 (.seq
 (.reg false [p (.mov (.v 9)),
 p (.mov (.v 7)),
 p (.call false (.r 0) []),
 p (.nck (.r 2)),
 p (.fad 5 (.r 0)),
 p (.store (none) (.r 0) (.r 2))] [(2,.v 2),(6,.v 6),(8,.v 8),(9,.v 9)])
 (.seq
 (.reg false [p (.mov (.v 9)),
 p (.nck (.r 0)),
 p (.fad 5 (.r 0)),
 p (.load (none) (.r 0)),
 p (.bin .eql (.r 0) (.k (.str [])))] [(2,.v 2),(6,.v 6),(8,.v 8),(129,.r 0)])
 (.cond (.v 129)
 (.seq
 (.reg false [p (.build [.int .i64 0,.str [],.str [],.int .i64 0,.int .i64 0,.str [],.str [],.fsl .nil 4 [],.bool false,.bool false,.fsl .nil 1 []] []),
 p (.store (some 11) (.v 2) (.r 0)),
 p (.mov (.k (.bool false)))] [(2,.v 2),(3,.r 0)])
 .ret)
 .skip)))
 .skip)))
 (.seq
 (.reg false [p (.bin .eql (.v 21) (.k (.str [102,97,105,108]))),
 p (.mov (.r 0))] [(2,.v 2),(6,.v 6),(7,.v 7),(8,.v 8),(9,.v 9),(21,.v 21),(131,.r 0)])
 (.cond (.v 131)
 (.reg false [p (.mov (.v 9)),
 p (.mov (.v 9)),
 p (.mov (.v 7)),
 p (.call false (.r 0) []),
 p (.call true (.k (.fn 14 [] [])) [.r 0]),
 p (.nck (.r 4)),
 p (.fad 0 (.r 0)),
 p (.store (none) (.r 0) (.k (.int .i64 6))),
 p (.nck (.r 6)),
 p (.fad 3 (.r 0)),
 p (.store (none) (.r 0) (.r 5))] [(2,.v 2),(6,.v 6),(8,.v 8)])
 (.seq
 (.reg false [p (.bin .eql (.v 21) (.k (.str [99,97,110,99,101,108]))),
 p (.mov (.r 0))] [(2,.v 2),(6,.v 6),(7,.v 7),(8,.v 8),(9,.v 9),(21,.v 21),(142,.r 0)])
 (.cond (.v 142)
 (.reg false [p (.mov (.v 9)),
 p (.mov (.v 9)),
 p (.mov (.v 7)),
 p (.call false (.r 0) []),
 p (.nck (.r 3)),
 p (.fad 0 (.r 0)),
 p (.store (none) (.r 0) (.k (.int .i64 7))),
 p (.nck (.r 5)),
 p (.fad 1 (.r 0)),
 p (.store (none) (.r 0) (.r 5))] [(2,.v 2),(6,.v 6),(8,.v 8)])
 (.seq
 (.reg false [p (.bin .eql (.v 21) (.k (.str [116,105,99,107]))),
 p (.mov (.r 0))] [(2,.v 2),(6,.v 6),(7,.v 7),(8,.v 8),(9,.v 9),(21,.v 21),(152,.r 0)])
 (.cond (.v 152)
 (.reg false [p (.mov (.v 9)),
 p (.mov (.v 9)),
 p (.mov (.v 7)),
 p (.call false (.r 0) []),
 p (.call true (.k (.fn 14 [] [])) [.r 0]),
 p (.nck (.r 4)),
 p (.fad 0 (.r 0)),
 p (.store (none) (.r 0) (.k (.int .i64 8))),
 p (.nck (.r 6)),
 p (.fad 4 (.r 0)),
 p (.store (none) (.r 0) (.r 5))] [(2,.v 2),(6,.v 6),(8,.v 8)])
 (.seq
 (.reg false [p (.bin .eql (.v 21) (.k (.str [115,116,97,116,101]))),
 p (.mov (.r 0))] [(2,.v 2),(6,.v 6),(7,.v 7),(8,.v 8),(9,.v 9),(21,.v 21),(163,.r 0)])
 (.cond (.v 163)
 (.reg false [p (.mov (.v 9)),
 p (.mov (.v 9)),
 p (.mov (.v 7)),
 p (.call false (.r 0) []),
 p (.nck (.r 3)),
 p (.fad 0 (.r 0)),
 p (.store (none) (.r 0) (.k (.int .i64 9))),
 p (.nck (.r 5)),
 p (.fad 1 (.r 0)),
 p (.store (none) (.r 0) (.r 5))] [(2,.v 2),(6,.v 6),(8,.v 8)])
 (.seq
 (.reg false [p (.bin .eql (.v 21) (.k (.str [115,121,110,99]))),
 p (.mov (.r 0))] [(2,.v 2),(6,.v 6),(8,.v 8),(9,.v 9),(173,.r 0)])
 (.cond (.v 173)
 (.reg false [p (.mov (.v 9)),
 p (.nck (.r 0)),
 p (.fad 0 (.r 0)),
 p (.store (none) (.r 0) (.k (.int .i64 10)))] [(2,.v 2),(6,.v 6),(8,.v 8)])
 (.seq
 (.reg false [p (.build [.int .i64 0,.str [],.str [],.int .i64 0,.int .i64 0,.str [],.str [],.fsl .nil 4 [],.bool false,.bool false,.fsl .nil 1 []] []),
 p (.store (some 11) (.v 2) (.r 0)),
 p (.mov (.k (.bool false)))] [(2,.v 2),(3,.r 0)])
 .ret)))))))))))))))))))))))))))
 (.frz
 (.seq
 (.frz
 (.reg true [p (.load (some 11) (.v 8)),
 p (.load (none) (.v 6)),
 p (.len false (.r 0)),
 p (.bin .eql (.r 0) (.k (.int .i64 0))),
 p (.mov (.r 0)),
 ⟨.load (some 11) (.v 8),some (0,true),[]⟩,
 ⟨.call true (.k (.fn 32 [] [])) [.r 0],some (1,true),[]⟩,
 p (.pick (.r 2) (.r 0) (.k (.bool false))),
 p (.store (some 11) (.v 2) (.r 7)),
 p (.mov (.r 1))] [(2,.v 2),(3,.r 0)]))
 .ret)))))))))
def r15:List RV:=[.c 2 (some 11),.t 3]
theorem en15:EnP Tryz.prog 15 186 c15 r15:=mkEnP (by kernel_rfl) Tryz.func15 (by kernel_rfl) ⟨_,rfl,by kernel_rfl,by kernel_rfl⟩
def c11:C :=
  (.seq
 (.reg false [p (.mov (.k (.str []))),
 p (.mov (.k (.bool false)))] [(0,.v 0),(1,.v 1)])
 (.seq
 (.reg false [p (.load (none) (.v 0)),
 p (.bin .add (.r 0) (.k (.int .i64 1))),
 p (.store (none) (.v 0) (.r 0))] [(1,.v 1)])
 (.seq
 (.reg false [p (.load (none) (.v 1)),
 p (.call true (.k (.fn 12 [] [])) [.r 0,.k (.str [10])]),
 p (.mov (.r 0)),
 p (.ext (.r 0) 0),
 p (.ext (.r 1) 1),
 p (.ext (.r 2) 2),
 p (.mov (.r 2)),
 p (.mov (.r 2)),
 p (.mov (.r 2))] [(1,.v 1),(4,.r 2),(5,.r 1),(6,.r 0)])
 (.seq
 (.reg false [p (.mov (.v 5)),
 p (.store (none) (.v 1) (.r 0))] [(4,.v 4),(6,.v 6)])
 (.seq
 (.reg false [p (.mov (.v 4)),
 p (.mov (.v 6)),
 p (.mov (.r 1)),
 p (.mov (.r 1))] [(2,.r 1),(3,.r 0)])
 .ret)))))
def r11:List RV:=[.t 2,.t 3]
theorem chk11:Chk Tryz.prog Tryz.f11 c11 r11:=⟨_,rfl,by kernel_rfl,by kernel_rfl⟩
theorem ena11:EnA Tryz.prog 11 18 c11 r11:=mkEnA (by kernel_rfl) Tryz.func11 (by kernel_rfl) chk11
def c13:C :=
  (.seq
 (.reg false [p (.alloc 2 (.agg [.int .i64 0,.fsl .nil 11 []])),
 p (.mov (.k (.int .i64 0))),
 p (.mov (.k (.int .i64 0)))] [(0,.v 0),(1,.r 2)])
 (.seq
 (.reg true [p (.build [.int .i64 0,.fsl .nil 11 []] []),
 p (.load (none) (.v 0)),
 ⟨.store (some 2) (.v 1) (.r 1),none,[0]⟩,
 p (.mov (.k (.int .i64 250))),
 p (.mov (.r 2))] [(1,.v 1),(2,.r 1),(3,.r 0)])
 .ret))
def r13:List RV:=[.c 1 (some 2),.t 2,.t 3]
theorem chk13:Chk Tryz.prog Tryz.f13 c13 r13:=⟨_,rfl,by kernel_rfl,by kernel_rfl⟩
theorem ena13:EnA Tryz.prog 13 6 c13 r13:=mkEnA (by kernel_rfl) Tryz.func13 (by kernel_rfl) chk13
def c5:C :=
  (.seq
 (.reg false [p (.box 1 (.v 0)),
 p (.alloc 2 (.agg [.int .i64 0,.fsl .nil 11 []])),
 p (.mov (.k (.int .i64 0))),
 p (.mov (.k (.int .i64 0)))] [(1,.r 3),(2,.r 2)])
 (.seq
 (.reg false [p (.alloc 1 (.int .i64 0)),
 p (.store (none) (.r 0) (.k (.int .i64 0)))] [(1,.v 1),(2,.v 2),(5,.r 1)])
 (.seq
 (.reg false [p (.mkf 11 [] [.v 5,.v 1]),
 p (.mov (.r 0))] [(1,.v 1),(2,.v 2),(5,.v 5),(6,.r 0)])
 (.seq
 (.reg false [p (.mkf 13 [] [.v 5]),
 p (.mov (.r 0))] [(1,.v 1),(2,.v 2),(6,.v 6),(7,.r 0)])
 (.seq
 (.reg false [p (.mov (.v 6)),
 p (.call false (.r 0) []),
 p (.mov (.r 0)),
 p (.ext (.r 0) 0),
 p (.ext (.r 1) 1),
 p (.mov (.r 1)),
 p (.mov (.r 1))] [(1,.v 1),(2,.v 2),(6,.v 6),(7,.v 7),(8,.r 1),(9,.r 0)])
 (.seq
 (.reg false [p (.mov (.v 8)),
 p (.call true (.k (.fn 12 [] [])) [.r 0,.k (.str [32])]),
 p (.mov (.r 0)),
 p (.ext (.r 0) 0),
 p (.ext (.r 1) 1),
 p (.ext (.r 2) 2),
 p (.mov (.r 2)),
 p (.mov (.r 2)),
 p (.mov (.r 2))] [(1,.v 1),(2,.v 2),(6,.v 6),(7,.v 7),(9,.v 9),(10,.r 2),(11,.r 1)])
 (.seq
 (.reg false [p (.mov (.v 11)),
 p (.call true (.k (.fn 14 [] [])) [.r 0]),
 p (.build [.int .i64 0,.fsl .nil 11 []] [(0,1,.r 0)]),
 p (.alloc 2 (.agg [.int .i64 0,.fsl .nil 11 []])),
 p (.store (some 2) (.r 0) (.r 1))] [(1,.v 1),(2,.v 2),(6,.v 6),(7,.v 7),(9,.v 9),(10,.v 10),(13,.r 1)])
 (.seq
 (.seq
 (.frz
 (.reg false [p (.mov (.v 9)),
 p (.un .not (.r 0)),
 p (.mov (.r 0)),
 ⟨.mov (.v 10),some (0,false),[]⟩,
 ⟨.bin .neq (.r 0) (.k (.str [115,105,122,101])),some (1,false),[]⟩,
 p (.pick (.r 2) (.k (.bool true)) (.r 0)),
 p (.mov (.r 0)),
 ⟨.load (some 2) (.v 13),some (0,false),[]⟩,
 ⟨.call true (.k (.fn 10 [] [])) [.r 0],some (1,false),[]⟩,
 ⟨.un .not (.r 0),some (2,false),[]⟩,
 p (.pick (.r 3) (.k (.bool true)) (.r 0))] [(1,.v 1),(2,.v 2),(6,.v 6),(7,.v 7),(13,.v 13),(44,.r 0)]))
 (.cond (.v 44)
 (.seq
 (.reg false [p (.mov (.v 7)),
 p (.call false (.r 0) []),
 p (.ext (.r 0) 0),
 p (.ext (.r 1) 1),
 p (.ext (.r 2) 2),
 p (.store (some 2) (.v 2) (.r 2)),
 p (.mov (.r 2)),
 p (.mov (.r 2))] [(2,.v 2),(3,.r 1),(4,.r 0)])
 (.frz .ret))
 .skip))
 (.seq
 (.block 0
 (.loop
 (.seq
 (.seq
 (.reg false [p (.load (none) (.v 1)),
 p (.bin .neq (.r 0) (.k (.str [])))] [(1,.v 1),(2,.v 2),(6,.v 6),(7,.v 7),(13,.v 13),(51,.r 0)])
 (.cond (.v 51)
 .skip
 (.exit 0)))
 (.block 1
 (.seq
 (.reg false [p (.mov (.v 6)),
 p (.call false (.r 0) []),
 p (.mov (.r 0)),
 p (.ext (.r 0) 0),
 p (.ext (.r 1) 1),
 p (.mov (.r 1)),
 p (.mov (.r 1))] [(1,.v 1),(2,.v 2),(6,.v 6),(7,.v 7),(13,.v 13),(14,.r 1),(15,.r 0)])
 (.seq
 (.reg false [p (.mov (.v 14)),
 p (.call true (.k (.fn 15 [] [])) [.r 0]),
 p (.mov (.r 0)),
 p (.ext (.r 0) 0),
 p (.ext (.r 1) 1),
 p (.alloc 11 (.agg [.int .i64 0,.str [],.str [],.int .i64 0,.int .i64 0,.str [],.str [],.fsl .nil 4 [],.bool false,.bool false,.fsl .nil 1 []])),
 p (.store (some 11) (.r 0) (.r 2)),
 p (.mov (.r 2))] [(1,.v 1),(2,.v 2),(6,.v 6),(7,.v 7),(13,.v 13),(15,.v 15),(16,.r 2),(17,.r 0)])
 (.seq
 (.seq
 (.reg false [p (.mov (.v 15)),
 p (.un .not (.r 0)),
 p (.mov (.r 0)),
 ⟨.mov (.v 17),some (0,false),[]⟩,
 ⟨.un .not (.r 0),some (1,false),[]⟩,
 p (.pick (.r 2) (.k (.bool true)) (.r 0)),
 p (.mov (.r 0)),
 ⟨.fad 1 (.v 13),some (0,false),[]⟩,
 ⟨.load (none) (.r 0),some (1,false),[]⟩,
 ⟨.len false (.r 0),some (2,false),[]⟩,
 ⟨.bin .geq (.r 0) (.k (.int .i64 200)),some (3,false),[]⟩,
 p (.pick (.r 4) (.k (.bool true)) (.r 0))] [(1,.v 1),(2,.v 2),(6,.v 6),(7,.v 7),(13,.v 13),(16,.v 16),(73,.r 0)])
 (.cond (.v 73)
 (.seq
 (.reg false [p (.mov (.v 7)),
 p (.call false (.r 0) []),
 p (.ext (.r 0) 0),
 p (.ext (.r 1) 1),
 p (.ext (.r 2) 2),
 p (.store (some 2) (.v 2) (.r 2)),
 p (.mov (.r 2)),
 p (.mov (.r 2))] [(2,.v 2),(3,.r 1),(4,.r 0)])
 (.frz .ret))
 .skip))
 (.reg false [p (.fad 1 (.v 13)),
 p (.load (none) (.r 0)),
 p (.load (some 11) (.v 16)),
 p (.bsl 11 [.r 0]),
 p (.app 11 144 (.r 2) (.r 0)),
 p (.fad 1 (.v 13)),
 p (.store (none) (.r 0) (.r 1))] [(1,.v 1),(2,.v 2),(6,.v 6),(7,.v 7),(13,.v 13)]))))))))
 (.frz
 (.seq
 (.reg false [p (.load (some 2) (.v 13)),
 p (.store (some 2) (.v 2) (.r 0)),
 p (.mov (.k (.int .i64 0))),
 p (.mov (.k (.int .i64 0)))] [(2,.v 2),(3,.r 1),(4,.r 0)])
 (.frz .ret))))))))))))
def r5:List RV:=[.c 2 (some 2),.t 3,.t 4]
theorem en5:EnP Tryz.prog 5 86 c5 r5:=mkEnP (by kernel_rfl) Tryz.func5 (by kernel_rfl) ⟨_,rfl,by kernel_rfl,by kernel_rfl⟩
def c20:C :=
  (.seq
 (.reg false [p (.alloc 11 (.agg [.int .i64 0,.str [],.str [],.int .i64 0,.int .i64 0,.str [],.str [],.fsl .nil 4 [],.bool false,.bool false,.fsl .nil 1 []])),
 p (.mov (.k (.bool false)))] [(0,.v 0),(2,.r 1)])
 (.seq
 (.reg false [p (.build [.int .i64 0,.str [],.str [],.int .i64 0,.int .i64 0,.str [],.str [],.fsl .nil 4 [],.bool false,.bool false,.fsl .nil 1 []] []),
 p (.alloc 11 (.agg [.int .i64 0,.str [],.str [],.int .i64 0,.int .i64 0,.str [],.str [],.fsl .nil 4 [],.bool false,.bool false,.fsl .nil 1 []])),
 p (.store (some 11) (.r 0) (.r 1))] [(0,.v 0),(2,.v 2),(4,.r 1)])
 (.seq
 (.reg false [p (.mov (.k (.str [])))] [(0,.v 0),(2,.v 2),(4,.v 4),(5,.r 0)])
 (.seq
 (.reg false [p (.mov (.k (.str [])))] [(0,.v 0),(2,.v 2),(4,.v 4),(5,.v 5),(6,.r 0)])
 (.cut
 (.seq
 (.reg false [p (.mov (.v 0)),
 p (.len false (.r 0)),
 p (.bin .gtr (.r 0) (.k (.int .i64 1)))] [(0,.v 0),(2,.v 2),(4,.v 4),(5,.v 5),(6,.v 6),(15,.r 0)])
 (.cond (.v 15)
 (.reg false [p (.mov (.v 0)),
 p (.iad 1 (.r 0) (.k (.int .i64 1))),
 p (.load (none) (.r 0)),
 p (.mov (.r 0))] [(0,.v 0),(2,.v 2),(4,.v 4),(5,.r 0),(6,.v 6)])
 .skip))
 (.cut
 (.seq
 (.reg false [p (.mov (.v 0)),
 p (.len false (.r 0)),
 p (.bin .gtr (.r 0) (.k (.int .i64 2)))] [(0,.v 0),(2,.v 2),(4,.v 4),(5,.v 5),(6,.v 6),(21,.r 0)])
 (.cond (.v 21)
 (.reg false [p (.mov (.v 0)),
 p (.iad 1 (.r 0) (.k (.int .i64 2))),
 p (.load (none) (.r 0)),
 p (.mov (.r 0))] [(0,.v 0),(2,.v 2),(4,.v 4),(5,.v 5),(6,.r 0)])
 .skip))
 (.cut
 (.seq
 (.reg false [p (.mov (.v 0)),
 p (.iad 1 (.r 0) (.k (.int .i64 0))),
 p (.load (none) (.r 0))] [(0,.v 0),(2,.v 2),(4,.v 4),(5,.v 5),(6,.v 6),(27,.r 0)])
 (.block 0
 (.seq
 (.reg false [p (.bin .eql (.v 27) (.k (.str [99,114,97,115,104]))),
 p (.mov (.r 0))] [(0,.v 0),(2,.v 2),(4,.v 4),(5,.v 5),(6,.v 6),(27,.v 27),(29,.r 0)])
 (.cond (.v 29)
 (.seq
 (.reg false [p (.fad 9 (.v 4)),
 p (.store (none) (.r 0) (.k (.bool true)))] [(0,.v 0),(2,.v 2),(4,.v 4)])
 (.seq
 (.reg false [p (.mov (.v 0)),
 p (.slc 1 (.r 0) (some (.k (.int .i64 1))) none none),
 p (.len false (.r 0)),
 p (.mov (.k (.int .i64 0)))] [(2,.v 2),(4,.v 4),(33,.r 2),(34,.r 1),(35,.r 0)])
 (.block 1
 (.loop
 (.seq
 (.reg false [p (.bin .lss (.v 35) (.v 34))] [(2,.v 2),(4,.v 4),(33,.v 33),(34,.v 34),(35,.v 35),(36,.r 0)])
 (.seq
 (.cond (.v 36)
 .skip
 (.exit 1))
 (.seq
 (.block 2
 (.seq
 (.reg false [p (.iad 1 (.v 33) (.v 35)),
 p (.load (none) (.r 0)),
 p (.mov (.r 0))] [(2,.v 2),(4,.v 4),(8,.r 0),(33,.v 33),(34,.v 34),(35,.v 35)])
 (.reg true [p (.fad 10 (.v 4)),
 p (.load (none) (.r 0)),
 p (.mov (.v 8)),
 p (.call true (.k (.fn 18 [] [])) [.r 0]),
 p (.bsl 1 [.r 0]),
 p (.app 1 8 (.r 3) (.r 0)),
 p (.fad 10 (.v 4)),
 p (.store (none) (.r 0) (.r 1))] [(2,.v 2),(4,.v 4),(33,.v 33),(34,.v 34),(35,.v 35)])))
 (.reg false [p (.bin .add (.v 35) (.k (.int .i64 1))),
 p (.mov (.r 0))] [(2,.v 2),(4,.v 4),(33,.v 33),(34,.v 34),(35,.r 0)]))))))))
 (.seq
 (.reg false [p (.bin .eql (.v 27) (.k (.str [99,104,101,99,107]))),
 p (.mov (.r 0))] [(0,.v 0),(2,.v 2),(4,.v 4),(5,.v 5),(6,.v 6),(27,.v 27),(47,.r 0)])
 (.cond (.v 47)
 (.reg false [p (.fad 8 (.v 4)),
 p (.store (none) (.r 0) (.k (.bool true)))] [(2,.v 2),(4,.v 4)])
 (.seq
 (.reg false [p (.bin .eql (.v 27) (.k (.str [103,114,97,112,104]))),
 p (.mov (.r 0))] [(0,.v 0),(2,.v 2),(4,.v 4),(5,.v 5),(6,.v 6),(27,.v 27),(50,.r 0)])
 (.cond (.v 50)
 (.seq
 (.reg false [p (.mov (.v 5)),
 p (.build [.str [],.fsl .nil 4 []] [(0,1,.r 0)]),
 p (.build [.int .i64 0,.str [],.str [],.int .i64 0,.int .i64 0,.str [],.str [],.fsl .nil 4 []] [(0,1,.k (.int .i64 1)),(6,2,.r 0)]),
 p (.fad 0 (.v 4)),
 p (.store (some 8) (.r 0) (.r 1))] [(0,.v 0),(2,.v 2),(4,.v 4)])
 (.seq
 (.reg false [p (.mov (.k (.int .i64 2)))] [(0,.v 0),(2,.v 2),(4,.v 4),(9,.r 0)])
 (.block 3
 (.loop
 (.seq
 (.seq
 (.reg false [p (.mov (.v 9)),
 p (.mov (.v 0)),
 p (.len false (.r 0)),
 p (.bin .lss (.r 2) (.r 0))] [(0,.v 0),(2,.v 2),(4,.v 4),(9,.v 9),(59,.r 0)])
 (.cond (.v 59)
 .skip
 (.exit 3)))
 (.seq
 (.block 4
 (.seq
 (.reg false [p (.mov (.v 0)),
 p (.mov (.v 9)),
 p (.iad 1 (.r 1) (.r 0)),
 p (.load (none) (.r 0)),
 p (.call true (.k (.fn 38 [] [])) [.r 0]),
 p (.mov (.r 0)),
 p (.ext (.r 0) 0),
 p (.ext (.r 1) 1),
 p (.alloc 4 (.agg [.fsl .nil 1 [],.int .i64 0,.int .i64 0,.int .i64 0])),
 p (.store (some 4) (.r 0) (.r 2)),
 p (.mov (.r 2))] [(0,.v 0),(2,.v 2),(4,.v 4),(9,.v 9),(10,.r 2),(11,.r 0)])
 (.seq
 (.seq
 (.reg false [p (.mov (.v 11)),
 p (.un .not (.r 0))] [(0,.v 0),(2,.v 2),(4,.v 4),(9,.v 9),(10,.v 10),(71,.r 0)])
 (.cond (.v 71)
 (.seq
 (.reg false [p (.load (some 11) (.v 4)),
 p (.store (some 11) (.v 2) (.r 0)),
 p (.mov (.k (.bool false)))] [(2,.v 2),(3,.r 0)])
 (.frz .ret))
 .skip))
 (.reg false [p (.fad 0 (.v 4)),
 p (.fad 6 (.r 0)),
 p (.fad 1 (.r 0)),
 p (.load (none) (.r 0)),
 p (.load (some 4) (.v 10)),
 p (.bsl 4 [.r 0]),
 p (.app 4 48 (.r 2) (.r 0)),
 p (.fad 0 (.v 4)),
 p (.fad 6 (.r 0)),
 p (.fad 1 (.r 0)),
 p (.store (none) (.r 0) (.r 3))] [(0,.v 0),(2,.v 2),(4,.v 4),(9,.v 9)]))))
 (.reg false [p (.mov (.v 9)),
 p (.bin .add (.r 0) (.k (.int .i64 1))),
 p (.mov (.r 0))] [(0,.v 0),(2,.v 2),(4,.v 4),(9,.r 0)])))))))
 (.seq
 (.reg false [p (.bin .eql (.v 27) (.k (.str [115,116,97,114,116]))),
 p (.mov (.r 0))] [(2,.v 2),(4,.v 4),(5,.v 5),(6,.v 6),(27,.v 27),(83,.r 0)])
 (.cond (.v 83)
 (.reg false [p (.mov (.v 5)),
 p (.mov (.v 6)),
 p (.build [.int .i64 0,.str [],.str [],.int .i64 0,.int .i64 0,.str [],.str [],.fsl .nil 4 []] [(0,1,.k (.int .i64 2)),(1,1,.r 1),(2,1,.r 0)]),
 p (.fad 0 (.v 4)),
 p (.store (some 8) (.r 0) (.r 1))] [(2,.v 2),(4,.v 4)])
 (.seq
 (.reg false [p (.bin .eql (.v 27) (.k (.str [112,111,108,108]))),
 p (.mov (.r 0))] [(2,.v 2),(4,.v 4),(5,.v 5),(6,.v 6),(27,.v 27),(89,.r 0)])
 (.cond (.v 89)
 (.reg false [p (.build [.int .i64 0,.str [],.str [],.int .i64 0,.int .i64 0,.str [],.str [],.fsl .nil 4 []] [(0,1,.k (.int .i64 3))]),
 p (.fad 0 (.v 4)),
 p (.store (some 8) (.r 0) (.r 1))] [(2,.v 2),(4,.v 4)])
 (.seq
 (.reg false [p (.bin .eql (.v 27) (.k (.str [98,101,97,116]))),
 p (.mov (.r 0))] [(2,.v 2),(4,.v 4),(5,.v 5),(6,.v 6),(27,.v 27),(93,.r 0)])
 (.cond (.v 93)
 (.reg false [p (.mov (.v 5)),
 p (.call true (.k (.fn 18 [] [])) [.r 0]),
 p (.build [.int .i64 0,.str [],.str [],.int .i64 0,.int .i64 0,.str [],.str [],.fsl .nil 4 []] [(0,1,.k (.int .i64 4)),(3,1,.r 0)]),
 p (.fad 0 (.v 4)),
 p (.store (some 8) (.r 0) (.r 1))] [(2,.v 2),(4,.v 4)])
 (.seq
 (.reg false [p (.bin .eql (.v 27) (.k (.str [100,111,110,101]))),
 p (.mov (.r 0))] [(2,.v 2),(4,.v 4),(5,.v 5),(6,.v 6),(27,.v 27),(99,.r 0)])
 (.cond (.v 99)
 (.reg false [p (.mov (.v 5)),
 p (.call true (.k (.fn 18 [] [])) [.r 0]),
 p (.mov (.v 6)),
 p (.build [.int .i64 0,.str [],.str [],.int .i64 0,.int .i64 0,.str [],.str [],.fsl .nil 4 []] [(0,1,.k (.int .i64 5)),(3,1,.r 1),(5,1,.r 0)]),
 p (.fad 0 (.v 4)),
 p (.store (some 8) (.r 0) (.r 1))] [(2,.v 2),(4,.v 4)])
 (.seq
 (.reg false [p (.bin .eql (.v 27) (.k (.str [102,97,105,108]))),
 p (.mov (.r 0))] [(2,.v 2),(4,.v 4),(5,.v 5),(27,.v 27),(106,.r 0)])
 (.cond (.v 106)
 (.reg false [p (.mov (.v 5)),
 p (.call true (.k (.fn 18 [] [])) [.r 0]),
 p (.build [.int .i64 0,.str [],.str [],.int .i64 0,.int .i64 0,.str [],.str [],.fsl .nil 4 []] [(0,1,.k (.int .i64 6)),(3,1,.r 0)]),
 p (.fad 0 (.v 4)),
 p (.store (some 8) (.r 0) (.r 1))] [(2,.v 2),(4,.v 4)])
 (.seq
 (.reg false [p (.bin .eql (.v 27) (.k (.str [99,97,110,99,101,108]))),
 p (.mov (.r 0))] [(2,.v 2),(4,.v 4),(5,.v 5),(27,.v 27),(112,.r 0)])
 (.cond (.v 112)
 (.reg false [p (.mov (.v 5)),
 p (.build [.int .i64 0,.str [],.str [],.int .i64 0,.int .i64 0,.str [],.str [],.fsl .nil 4 []] [(0,1,.k (.int .i64 7)),(1,1,.r 0)]),
 p (.fad 0 (.v 4)),
 p (.store (some 8) (.r 0) (.r 1))] [(2,.v 2),(4,.v 4)])
 (.seq
 (.reg false [p (.bin .eql (.v 27) (.k (.str [116,105,99,107]))),
 p (.mov (.r 0))] [(2,.v 2),(4,.v 4),(5,.v 5),(27,.v 27),(117,.r 0)])
 (.cond (.v 117)
 (.reg false [p (.mov (.v 5)),
 p (.call true (.k (.fn 18 [] [])) [.r 0]),
 p (.build [.int .i64 0,.str [],.str [],.int .i64 0,.int .i64 0,.str [],.str [],.fsl .nil 4 []] [(0,1,.k (.int .i64 8)),(4,1,.r 0)]),
 p (.fad 0 (.v 4)),
 p (.store (some 8) (.r 0) (.r 1))] [(2,.v 2),(4,.v 4)])
 (.seq
 (.reg false [p (.bin .eql (.v 27) (.k (.str [115,116,97,116,101]))),
 p (.mov (.r 0))] [(2,.v 2),(4,.v 4),(5,.v 5),(27,.v 27),(123,.r 0)])
 (.cond (.v 123)
 (.reg false [p (.mov (.v 5)),
 p (.build [.int .i64 0,.str [],.str [],.int .i64 0,.int .i64 0,.str [],.str [],.fsl .nil 4 []] [(0,1,.k (.int .i64 9)),(1,1,.r 0)]),
 p (.fad 0 (.v 4)),
 p (.store (some 8) (.r 0) (.r 1))] [(2,.v 2),(4,.v 4)])
 (.seq
 (.reg false [p (.bin .eql (.v 27) (.k (.str [115,121,110,99]))),
 p (.mov (.r 0))] [(2,.v 2),(4,.v 4),(128,.r 0)])
 (.cond (.v 128)
 (.reg false [p (.build [.int .i64 0,.str [],.str [],.int .i64 0,.int .i64 0,.str [],.str [],.fsl .nil 4 []] [(0,1,.k (.int .i64 10))]),
 p (.fad 0 (.v 4)),
 p (.store (some 8) (.r 0) (.r 1))] [(2,.v 2),(4,.v 4)])
 (.seq
 (.reg false [p (.load (some 11) (.v 4)),
 p (.store (some 11) (.v 2) (.r 0)),
 p (.mov (.k (.bool false)))] [(2,.v 2),(3,.r 0)])
 (.frz .ret))))))))))))))))))))))))))))
 (.frz
 (.seq
 (.reg false [p (.load (some 11) (.v 4)),
 p (.store (some 11) (.v 2) (.r 0)),
 p (.mov (.k (.bool true)))] [(2,.v 2),(3,.r 0)])
 (.frz .ret))))))))))
def c6:C :=
  (.seq
 (.reg false [p (.alloc 2 (.agg [.int .i64 0,.fsl .nil 11 []])),
 p (.mov (.k (.int .i64 0))),
 p (.mov (.k (.int .i64 0)))] [(0,.v 0),(2,.r 2)])
 (.seq
 (.reg false [p (.mov (.v 0)),
 p (.call true (.k (.fn 16 [] [])) [.r 0,.k (.int .u8 10)]),
 p (.mov (.r 0)),
 p (.ext (.r 0) 0),
 p (.ext (.r 1) 1),
 p (.ext (.r 2) 2),
 p (.mov (.r 2)),
 p (.mov (.r 2)),
 p (.mov (.r 2))] [(2,.v 2),(5,.r 2),(6,.r 1),(7,.r 0)])
 (.seq
 (.reg false [p (.mov (.v 5)),
 p (.call true (.k (.fn 17 [] [])) [.r 0,.k (.int .u8 32)]),
 p (.mov (.r 0))] [(2,.v 2),(6,.v 6),(7,.v 7),(8,.r 0)])
 (.seq
 (.reg false [p (.build [.int .i64 0,.fsl .nil 11 []] []),
 p (.alloc 2 (.agg [.int .i64 0,.fsl .nil 11 []])),
 p (.store (some 2) (.r 0) (.r 1))] [(2,.v 2),(6,.v 6),(7,.v 7),(8,.v 8),(9,.r 1)])
 (.cut
 (.seq
 (.reg false [p (.mov (.v 8)),
 p (.len false (.r 0)),
 p (.bin .eql (.r 0) (.k (.int .i64 2))),
 p (.mov (.r 0)),
 ⟨.mov (.v 8),some (0,true),[]⟩,
 ⟨.iad 1 (.r 0) (.k (.int .i64 0)),some (1,true),[]⟩,
 ⟨.load (none) (.r 0),some (2,true),[]⟩,
 ⟨.bin .eql (.r 0) (.k (.str [115,105,122,101])),some (3,true),[]⟩,
 p (.pick (.r 4) (.r 0) (.k (.bool false)))] [(2,.v 2),(6,.v 6),(7,.v 7),(8,.v 8),(9,.v 9),(33,.r 0)])
 (.cond (.v 33)
 (.reg false [p (.mov (.v 8)),
 p (.iad 1 (.r 0) (.k (.int .i64 1))),
 p (.load (none) (.r 0)),
 p (.call true (.k (.fn 18 [] [])) [.r 0]),
 p (.fad 0 (.v 9)),
 p (.store (none) (.r 0) (.r 1))] [(2,.v 2),(6,.v 6),(7,.v 7),(9,.v 9)])
 .skip))
 (.seq
 (.seq
 (.frz
 (.reg false [p (.mov (.v 7)),
 p (.un .not (.r 0)),
 p (.mov (.r 0)),
 ⟨.load (some 2) (.v 9),some (0,false),[]⟩,
 ⟨.call true (.k (.fn 19 [] [])) [.r 0],some (1,false),[]⟩,
 ⟨.un .not (.r 0),some (2,false),[]⟩,
 p (.pick (.r 3) (.k (.bool true)) (.r 0))] [(2,.v 2),(6,.v 6),(9,.v 9),(45,.r 0)]))
 (.cond (.v 45)
 (.seq
 (.reg false [p (.build [.int .i64 0,.fsl .nil 11 []] []),
 p (.store (some 2) (.v 2) (.r 0)),
 p (.mov (.k (.int .i64 250))),
 p (.mov (.k (.int .i64 1)))] [(2,.v 2),(3,.r 1),(4,.r 0)])
 (.frz .ret))
 .skip))
 (.seq
 (.seq
 (.reg false [p (.mov (.k (.int .i64 2)))] [(2,.v 2),(6,.v 6),(9,.v 9),(10,.r 0)])
 (.block 0
 (.loop
 (.seq
 (.seq
 (.reg false [p (.mov (.v 6)),
 p (.bin .neq (.r 0) (.k (.str [])))] [(2,.v 2),(6,.v 6),(9,.v 9),(10,.v 10),(48,.r 0)])
 (.cond (.v 48)
 .skip
 (.exit 0)))
 (.seq
 (.block 1
 (.seq
 (.reg false [p (.mov (.v 6)),
 p (.call true (.k (.fn 16 [] [])) [.r 0,.k (.int .u8 10)]),
 p (.mov (.r 0)),
 p (.ext (.r 0) 0),
 p (.ext (.r 1) 1),
 p (.ext (.r 2) 2),
 p (.mov (.r 2)),
 p (.mov (.r 2)),
 p (.mov (.r 2))] [(2,.v 2),(9,.v 9),(10,.v 10),(11,.r 2),(12,.r 1),(13,.r 0)])
 (.seq
 (.reg false [p (.mov (.v 11)),
 p (.call true (.k (.fn 17 [] [])) [.r 0,.k (.int .u8 32)]),
 p (.call true (.k (.fn 20 [] [])) [.r 0]),
 p (.mov (.r 0)),
 p (.ext (.r 0) 0),
 p (.ext (.r 1) 1),
 p (.alloc 11 (.agg [.int .i64 0,.str [],.str [],.int .i64 0,.int .i64 0,.str [],.str [],.fsl .nil 4 [],.bool false,.bool false,.fsl .nil 1 []])),
 p (.store (some 11) (.r 0) (.r 2)),
 p (.mov (.r 2))] [(2,.v 2),(9,.v 9),(10,.v 10),(11,.v 11),(12,.v 12),(13,.v 13),(14,.r 2),(15,.r 0)])
 (.seq
 (.seq
 (.reg false [p (.mov (.v 13)),
 p (.un .not (.r 0)),
 p (.mov (.r 0)),
 ⟨.mov (.v 15),some (0,false),[]⟩,
 ⟨.un .not (.r 0),some (1,false),[]⟩,
 p (.pick (.r 2) (.k (.bool true)) (.r 0)),
 p (.mov (.r 0)),
 ⟨.fad 1 (.v 9),some (0,false),[]⟩,
 ⟨.load (none) (.r 0),some (1,false),[]⟩,
 ⟨.len false (.r 0),some (2,false),[]⟩,
 ⟨.bin .geq (.r 0) (.k (.int .i64 200)),some (3,false),[]⟩,
 p (.pick (.r 4) (.k (.bool true)) (.r 0)),
 p (.mov (.r 0)),
 ⟨.load (some 11) (.v 14),some (0,false),[]⟩,
 ⟨.call true (.k (.fn 21 [] [])) [.r 0],some (1,false),[]⟩,
 ⟨.un .not (.r 0),some (2,false),[]⟩,
 p (.pick (.r 3) (.k (.bool true)) (.r 0)),
 p (.mov (.r 0)),
 ⟨.load (some 11) (.v 14),some (0,false),[]⟩,
 ⟨.call true (.k (.fn 22 [] [])) [.r 0],some (1,false),[]⟩,
 ⟨.mov (.v 11),some (2,false),[]⟩,
 ⟨.bin .neq (.r 1) (.r 0),some (3,false),[]⟩,
 p (.pick (.r 4) (.k (.bool true)) (.r 0))] [(2,.v 2),(9,.v 9),(10,.v 10),(12,.v 12),(14,.v 14),(85,.r 0)])
 (.cond (.v 85)
 (.seq
 (.reg false [p (.build [.int .i64 0,.fsl .nil 11 []] []),
 p (.mov (.v 10)),
 p (.store (some 2) (.v 2) (.r 1)),
 p (.mov (.k (.int .i64 250))),
 p (.mov (.r 2))] [(2,.v 2),(3,.r 1),(4,.r 0)])
 (.frz .ret))
 .skip))
 (.seq
 (.reg false [p (.fad 1 (.v 9)),
 p (.load (none) (.r 0)),
 p (.load (some 11) (.v 14)),
 p (.bsl 11 [.r 0]),
 p (.app 11 144 (.r 2) (.r 0)),
 p (.fad 1 (.v 9)),
 p (.store (none) (.r 0) (.r 1))] [(2,.v 2),(9,.v 9),(10,.v 10),(12,.v 12)])
 (.reg false [p (.mov (.v 12)),
 p (.mov (.r 0))] [(2,.v 2),(6,.r 0),(9,.v 9),(10,.v 10)]))))))
 (.reg false [p (.mov (.v 10)),
 p (.bin .add (.r 0) (.k (.int .i64 1))),
 p (.mov (.r 0))] [(2,.v 2),(6,.v 6),(9,.v 9),(10,.r 0)]))))))
 (.frz
 (.seq
 (.reg false [p (.load (some 2) (.v 9)),
 p (.store (some 2) (.v 2) (.r 0)),
 p (.mov (.k (.int .i64 0))),
 p (.mov (.k (.int .i64 0)))] [(2,.v 2),(3,.r 1),(4,.r 0)])
 (.frz .ret))))))))))
def c8:C :=
  (.seq
 (.reg false [p (.box 2 (.v 0)),
 p (.box 2 (.v 1)),
 p (.mov (.k (.bool false)))] [(2,.r 2),(3,.r 1)])
 (.seq
 (.seq
 (.reg false [p (.fad 0 (.v 2)),
 p (.load (none) (.r 0)),
 p (.fad 0 (.v 3)),
 p (.load (none) (.r 0)),
 p (.bin .neq (.r 2) (.r 0)),
 p (.mov (.r 0)),
 ⟨.fad 1 (.v 2),some (0,false),[]⟩,
 ⟨.load (none) (.r 0),some (1,false),[]⟩,
 ⟨.len false (.r 0),some (2,false),[]⟩,
 ⟨.fad 1 (.v 3),some (3,false),[]⟩,
 ⟨.load (none) (.r 0),some (4,false),[]⟩,
 ⟨.len false (.r 0),some (5,false),[]⟩,
 ⟨.bin .neq (.r 3) (.r 0),some (6,false),[]⟩,
 p (.pick (.r 7) (.k (.bool true)) (.r 0))] [(2,.v 2),(3,.v 3),(21,.r 0)])
 (.cond (.v 21)
 (.seq
 (.reg false [p (.mov (.k (.bool false)))] [(4,.r 0)])
 .ret)
 .skip))
 (.seq
 (.seq
 (.reg false [p (.fad 1 (.v 2)),
 p (.load (none) (.r 0)),
 p (.len false (.r 0)),
 p (.mov (.k (.int .i64 0)))] [(3,.v 3),(23,.r 2),(24,.r 1),(25,.r 0)])
 (.block 0
 (.loop
 (.seq
 (.reg false [p (.bin .lss (.v 25) (.v 24))] [(3,.v 3),(23,.v 23),(24,.v 24),(25,.v 25),(26,.r 0)])
 (.seq
 (.cond (.v 26)
 .skip
 (.exit 0))
 (.seq
 (.block 1
 (.seq
 (.reg false [p (.mov (.v 25)),
 p (.iad 11 (.v 23) (.v 25)),
 p (.load (some 11) (.r 0)),
 p (.alloc 11 (.agg [.int .i64 0,.str [],.str [],.int .i64 0,.int .i64 0,.str [],.str [],.fsl .nil 4 [],.bool false,.bool false,.fsl .nil 1 []])),
 p (.mov (.r 3)),
 p (.store (some 11) (.r 1) (.r 2))] [(3,.v 3),(5,.r 1),(6,.r 2),(23,.v 23),(24,.v 24),(25,.v 25)])
 (.seq
 (.reg false [p (.fad 1 (.v 3)),
 p (.load (none) (.r 0)),
 p (.mov (.v 5)),
 p (.iad 11 (.r 1) (.r 0)),
 p (.load (some 11) (.r 0)),
 p (.alloc 11 (.agg [.int .i64 0,.str [],.str [],.int .i64 0,.int .i64 0,.str [],.str [],.fsl .nil 4 [],.bool false,.bool false,.fsl .nil 1 []])),
 p (.store (some 11) (.r 0) (.r 1))] [(3,.v 3),(6,.v 6),(7,.r 1),(23,.v 23),(24,.v 24),(25,.v 25)])
 (.seq
 (.reg false [p (.fad 8 (.v 6)),
 p (.load (none) (.r 0)),
 p (.fad 8 (.v 7)),
 p (.load (none) (.r 0)),
 p (.eqb true (.r 2) (.r 0)),
 p (.mov (.r 0)),
 ⟨.fad 9 (.v 6),some (0,false),[]⟩,
 ⟨.load (none) (.r 0),some (1,false),[]⟩,
 ⟨.fad 9 (.v 7),some (2,false),[]⟩,
 ⟨.load (none) (.r 0),some (3,false),[]⟩,
 ⟨.eqb true (.r 2) (.r 0),some (4,false),[]⟩,
 p (.pick (.r 5) (.k (.bool true)) (.r 0)),
 p (.mov (.r 0)),
 ⟨.fad 10 (.v 6),some (0,false),[]⟩,
 ⟨.load (none) (.r 0),some (1,false),[]⟩,
 ⟨.fad 10 (.v 7),some (2,false),[]⟩,
 ⟨.load (none) (.r 0),some (3,false),[]⟩,
 ⟨.call true (.k (.fn 23 [] [])) [.r 2,.r 0],some (4,false),[]⟩,
 ⟨.un .not (.r 0),some (5,false),[]⟩,
 p (.pick (.r 6) (.k (.bool true)) (.r 0)),
 p (.mov (.r 0)),
 ⟨.fad 0 (.v 6),some (0,false),[]⟩,
 ⟨.load (some 8) (.r 0),some (1,false),[]⟩,
 ⟨.fad 0 (.v 7),some (2,false),[]⟩,
 ⟨.load (some 8) (.r 0),some (3,false),[]⟩,
 ⟨.call true (.k (.fn 24 [] [])) [.r 2,.r 0],some (4,false),[]⟩,
 ⟨.un .not (.r 0),some (5,false),[]⟩,
 p (.pick (.r 6) (.k (.bool true)) (.r 0))] [(3,.v 3),(23,.v 23),(24,.v 24),(25,.v 25),(62,.r 0)])
 (.cond (.v 62)
 (.seq
 (.reg false [p (.mov (.k (.bool false)))] [(4,.r 0)])
 .ret)
 .skip)))))
 (.reg false [p (.bin .add (.v 25) (.k (.int .i64 1))),
 p (.mov (.r 0))] [(3,.v 3),(23,.v 23),(24,.v 24),(25,.r 0)])))))))
 (.frz
 (.seq
 (.reg false [p (.mov (.k (.bool true)))] [(4,.r 0)])
 .ret)))))
def r8:List RV:=[.t 4]
theorem en8:EnP Tryz.prog 8 64 c8 r8:=mkEnP (by kernel_rfl) Tryz.func8 (by kernel_rfl) ⟨_,rfl,by kernel_rfl,by kernel_rfl⟩
def c3:C :=
  (.seq
 (.reg false [p (.mov (.k (.bool false)))] [(0,.v 0)])
 (.seq
 (.reg false [p (.mov (.v 0)),
 p (.call true (.k (.fn 5 [] [])) [.r 0]),
 p (.mov (.r 0)),
 p (.ext (.r 0) 0),
 p (.ext (.r 1) 1),
 p (.ext (.r 2) 2),
 p (.alloc 2 (.agg [.int .i64 0,.fsl .nil 11 []])),
 p (.store (some 2) (.r 0) (.r 3)),
 p (.mov (.r 3)),
 p (.mov (.r 3))] [(0,.v 0),(3,.r 3),(4,.r 1),(5,.r 0)])
 (.seq
 (.reg false [p (.mov (.v 0)),
 p (.call true (.k (.fn 6 [] [])) [.r 0]),
 p (.mov (.r 0)),
 p (.ext (.r 0) 0),
 p (.ext (.r 1) 1),
 p (.ext (.r 2) 2),
 p (.alloc 2 (.agg [.int .i64 0,.fsl .nil 11 []])),
 p (.store (some 2) (.r 0) (.r 3)),
 p (.mov (.r 3)),
 p (.mov (.r 3))] [(3,.v 3),(4,.v 4),(5,.v 5),(6,.r 3),(7,.r 1),(8,.r 0)])
 (.seq
 (.reg false [p (.call true (.k (.fn 7 [] [])) []),
 p (.mov (.r 0)),
 ⟨.mov (.v 4),some (0,true),[]⟩,
 ⟨.mov (.v 7),some (1,true),[]⟩,
 ⟨.bin .eql (.r 1) (.r 0),some (2,true),[]⟩,
 p (.pick (.r 3) (.r 0) (.k (.bool false))),
 p (.mov (.r 0)),
 ⟨.mov (.v 5),some (0,true),[]⟩,
 ⟨.mov (.v 8),some (1,true),[]⟩,
 ⟨.bin .eql (.r 1) (.r 0),some (2,true),[]⟩,
 p (.pick (.r 3) (.r 0) (.k (.bool false))),
 p (.mov (.r 0)),
 ⟨.load (some 2) (.v 3),some (0,true),[]⟩,
 ⟨.load (some 2) (.v 6),some (1,true),[]⟩,
 ⟨.call true (.k (.fn 8 [] [])) [.r 1,.r 0],some (2,true),[]⟩,
 p (.pick (.r 3) (.r 0) (.k (.bool false))),
 p (.mov (.r 0))] [(2,.r 0)])
 .ret))))
def r3:List RV:=[.t 2]
def c4:C :=
  (.seq
 (.reg false [p (.box 2 (.v 0)),
 p (.mov (.k (.bool false)))] [(1,.v 1),(2,.r 1)])
 (.seq
 (.seq
 (.reg false [p (.load (some 2) (.v 2)),
 p (.call true (.k (.fn 9 [] [])) [.r 0]),
 p (.mov (.r 0)),
 p (.ext (.r 0) 0),
 p (.ext (.r 1) 1),
 p (.mov (.r 1)),
 p (.mov (.r 1))] [(1,.v 1),(2,.v 2),(5,.r 1),(6,.r 0)])
 (.seq
 (.reg false [p (.mov (.v 6)),
 p (.bin .eql (.r 0) (.k (.int .i64 0)))] [(1,.v 1),(2,.v 2),(5,.v 5),(21,.r 0)])
 (.cond (.v 21)
 (.seq
 (.reg false [p (.mov (.v 5)),
 p (.call true (.k (.fn 5 [] [])) [.r 0]),
 p (.mov (.r 0)),
 p (.ext (.r 0) 0),
 p (.ext (.r 1) 1),
 p (.ext (.r 2) 2),
 p (.alloc 2 (.agg [.int .i64 0,.fsl .nil 11 []])),
 p (.store (some 2) (.r 0) (.r 3)),
 p (.mov (.r 3)),
 p (.mov (.r 3))] [(1,.v 1),(2,.v 2),(7,.r 3),(8,.r 1),(9,.r 0)])
 (.seq
 (.reg false [p (.mov (.v 8)),
 p (.bin .neq (.r 0) (.k (.int .i64 0))),
 p (.mov (.r 0)),
 ⟨.mov (.v 9),some (0,false),[]⟩,
 ⟨.bin .neq (.r 0) (.k (.int .i64 0)),some (1,false),[]⟩,
 p (.pick (.r 2) (.k (.bool true)) (.r 0)),
 p (.mov (.r 0)),
 ⟨.load (some 2) (.v 2),some (0,false),[]⟩,
 ⟨.load (some 2) (.v 7),some (1,false),[]⟩,
 ⟨.call true (.k (.fn 8 [] [])) [.r 1,.r 0],some (2,false),[]⟩,
 ⟨.un .not (.r 0),some (3,false),[]⟩,
 p (.pick (.r 4) (.k (.bool true)) (.r 0))] [(1,.v 1),(39,.r 0)])
 (.cond (.v 39)
 (.seq
 (.reg false [p (.mov (.k (.bool false)))] [(4,.r 0)])
 .ret)
 .skip)))
 .skip)))
 (.seq
 (.reg false [p (.mov (.v 1)),
 p (.call true (.k (.fn 5 [] [])) [.r 0]),
 p (.mov (.r 0)),
 p (.ext (.r 0) 0),
 p (.ext (.r 1) 1),
 p (.ext (.r 2) 2),
 p (.alloc 2 (.agg [.int .i64 0,.fsl .nil 11 []])),
 p (.store (some 2) (.r 0) (.r 3)),
 p (.mov (.r 3)),
 p (.mov (.r 3))] [(1,.v 1),(10,.r 3),(11,.r 1)])
 (.seq
 (.seq
 (.reg false [p (.mov (.v 11)),
 p (.bin .neq (.r 0) (.k (.int .i64 0)))] [(1,.v 1),(10,.v 10),(47,.r 0)])
 (.cond (.v 47)
 (.seq
 (.reg false [p (.call true (.k (.fn 7 [] [])) []),
 p (.mov (.r 0)),
 ⟨.load (some 2) (.v 10),some (0,true),[]⟩,
 ⟨.build [.int .i64 0,.fsl .nil 11 []] [],some (1,true),[]⟩,
 ⟨.call true (.k (.fn 8 [] [])) [.r 1,.r 0],some (2,true),[]⟩,
 p (.pick (.r 3) (.r 0) (.k (.bool false))),
 p (.mov (.r 0))] [(4,.r 0)])
 .ret)
 .skip))
 (.seq
 (.reg false [p (.load (some 2) (.v 10)),
 p (.call true (.k (.fn 9 [] [])) [.r 0]),
 p (.mov (.r 0)),
 p (.ext (.r 0) 0),
 p (.ext (.r 1) 1),
 p (.mov (.r 1)),
 p (.mov (.r 1))] [(1,.v 1),(10,.v 10),(13,.r 1),(14,.r 0)])
 (.seq
 (.reg false [p (.call true (.k (.fn 7 [] [])) []),
 p (.mov (.r 0)),
 ⟨.mov (.v 14),some (0,true),[]⟩,
 ⟨.bin .eql (.r 0) (.k (.int .i64 0)),some (1,true),[]⟩,
 p (.pick (.r 2) (.r 0) (.k (.bool false))),
 p (.mov (.r 0)),
 ⟨.mov (.v 13),some (0,true),[]⟩,
 ⟨.mov (.v 1),some (1,true),[]⟩,
 ⟨.bin .eql (.r 1) (.r 0),some (2,true),[]⟩,
 p (.pick (.r 3) (.r 0) (.k (.bool false))),
 p (.mov (.r 0)),
 ⟨.load (some 2) (.v 10),some (0,true),[]⟩,
 ⟨.call true (.k (.fn 10 [] [])) [.r 0],some (1,true),[]⟩,
 p (.pick (.r 2) (.r 0) (.k (.bool false))),
 p (.mov (.r 0))] [(4,.r 0)])
 .ret))))))
def r4:List RV:=[.t 4]
theorem en4:EnP Tryz.prog 4 73 c4 r4:=mkEnP (by kernel_rfl) Tryz.func4 (by kernel_rfl) ⟨_,rfl,by kernel_rfl,by kernel_rfl⟩
theorem atoi_range {s:Str} {v:Int} (h:Lib.atoiAll s=.ok v):-9223372036854775808≤v∧v≤9223372036854775807:=by
  unfold Lib.atoiAll at h
  split at h
  · cases h
  · simp only at h
    split at h
    · cases h
    · cases h
    · rename_i u hu
      split at h
      · cases h
      · split at h
        · cases h
        · simp only [Lib.NumEnd.ok.injEq] at h; subst h
          split<;>omega
theorem p_number (s:Str) (hl:s.length≤281474976710656):PCall Tryz.prog 14 [.str s] (.int .i64 (numS s)):=by
  refine en14 (by simp) (by simp [closedL,V.closed]) ?_
  have ka:=p_atoi s hl
  generalize ren_atoi.t 168=T at ka
  unfold atoiV at ka
  simp (maxSteps:=1000000) (disch:=omega) only [rg,gD,simprocAttr,c14]
  rcases ha:Lib.atoiAll s with v | _ | _
  · rw [ha] at ka
    have hv:=atoi_range ha
    refine ⟨_,ka, ?_⟩
    by_cases h0:v < 0
    · have e:numS s=-1:=by unfold numS; rw [ha]; simp only; rw [if_pos (.inl h0)]
      simp (maxSteps:=1000000) (disch:=omega) only [rg,gD,simprocAttr,h0]
      (refine fin_x rfl ?_ ?_<;>simp [pack,lo,loL,V.closed,closedL,mv_closed,e])
    · simp (maxSteps:=1000000) (disch:=omega) only [rg,gD,simprocAttr,h0]
      refine ⟨_,p_itoa v hv, ?_⟩
      by_cases h1:Lib.itoa v=s
      · have e:numS s=v:=by unfold numS; rw [ha]; simp only; rw [if_neg (by rw [not_or]; exact ⟨h0,fun h => h h1⟩)]
        simp (maxSteps:=1000000) (disch:=omega) only [rg,gD,simprocAttr,h1]
        (refine fin_x rfl ?_ ?_<;>simp [pack,lo,loL,V.closed,closedL,mv_closed,e])
      · have e:numS s=-1:=by unfold numS; rw [ha]; simp only; rw [if_pos (.inr h1)]
        simp (maxSteps:=1000000) (disch:=omega) only [rg,gD,simprocAttr,h1]
        (refine fin_x rfl ?_ ?_<;>simp [pack,lo,loL,V.closed,closedL,mv_closed,e])
  · rw [ha] at ka
    have e:numS s=-1:=by unfold numS; rw [ha]
    refine ⟨_,ka, ?_⟩
    simp (maxSteps:=1000000) (disch:=omega) only [rg,gD,simprocAttr]
    (refine fin_x rfl ?_ ?_<;>simp [pack,lo,loL,V.closed,closedL,mv_closed,e])
  · rw [ha] at ka
    have e:numS s=-1:=by unfold numS; rw [ha]
    refine ⟨_,ka, ?_⟩
    simp (maxSteps:=1000000) (disch:=omega) only [rg,gD,simprocAttr]
    (refine fin_x rfl ?_ ?_<;>simp [pack,lo,loL,V.closed,closedL,mv_closed,e])
theorem piece_len (c:UInt8):∀ s:Str,∀ x∈splitC c s,x.length≤s.length
  | [],x,h => by simp [splitC] at h; subst h; simp
  | b::s,x,h => by
    have ih:=piece_len c s
    obtain ⟨w,ws,e⟩:∃ w ws,splitC c s=w::ws:=by cases h:splitC c s with | nil => exact absurd h (splitC_ne c s) | cons w ws => exact ⟨w,ws,rfl⟩
    rw [e] at ih
    simp only [splitC] at h
    split at h
    · rcases List.mem_cons.1 h with rfl | h
      · simp
      · rw [e] at h; have:=ih x h; simp; omega
    · rw [e] at h
      simp only [List.headD_cons,List.tail_cons] at h
      rcases List.mem_cons.1 h with rfl | h
      · have:=ih w (by simp); simp; omega
      · have:=ih x (by simp [h]); simp; omega
def tkO (o:Option Task):V:=match o with
  | some t => .tup [taskV t,.bool true]
  | none => .tup [taskV ⟨[],0,0,0⟩,.bool false]
theorem vS_get {l:List Str} {i:Nat} (h:i < l.length):(vS l)[i]?=some (.str l[i]):=mv_get h
theorem mkTask_none {l:List Int} (h:l.length < 3):mkTask l=none:=by
  match l,h with
  | [],_ => rfl
  | [_],_ => rfl
  | [_,_],_ => rfl
theorem p_task (w:Str) (hl:w.length≤4000000000):PCall Tryz.prog 37 [.str w] (tkO (taskP w)):=by
  refine en37 (by simp) (by simp [closedL,V.closed]) ?_
  simp (maxSteps:=1000000) (disch:=omega) only [rg,gD,simprocAttr,c37]
  refine ⟨_,p_split w 44 (by omega), ?_⟩
  have hsl:=splitC_len 44 w
  simp (maxSteps:=1000000) (disch:=omega) only [rg,gD,simprocAttr,vS_len']
  refine x_it (splitC 44 w).length (fun i σ H => ∃ v,1≤H.n∧H.m 0=some (.arr 4 [.agg [.fsl .nil 1 [],.int .i64 0,.int .i64 0,.int .i64 0]])∧Gro 1 H.n H.m 1 v (vI (((splitC 44 w).take i).map numS))∧(((splitC 44 w).take i).map numS).all (fun n => decide (0≤n))=true∧σ=[(2,.ptr 0 0 0),(4,v),(10,.fsl .full 1 (vS (splitC 44 w))),(11,.int .i64 (splitC 44 w).length),(12,.int .i64 i)]) ⟨_,by simp,(by simp (disch:=omega) only [upd_eq,upd_ne,wo_0,wo_1,wo_2]),Gro.nil,rfl,rfl⟩ ?_
  rintro T i σ ⟨n,m⟩ hi ⟨v,hn1,e0,hG,ha,rfl⟩ hN hX hR
  simp only at hn1 e0 hG
  simp (maxSteps:=1000000) (disch:=omega) only [rg,gD,simprocAttr]
  refine ⟨fun hlt => ?_,fun hlt => ?_⟩
  · have i1:i < (splitC 44 w).length:=by omega
    have hpl:=piece_len 44 w (splitC 44 w)[i] (List.getElem_mem i1)
    simp (maxSteps:=1000000) (disch:=omega) only [rg,gD,simprocAttr,vS_get]
    refine ⟨_,p_number _ (by omega), ?_⟩
    by_cases h0:numS (splitC 44 w)[i] < 0
    · have e:taskP w=none:=by
        rw [taskP,if_neg]
        rw [List.all_eq_true]; intro hh
        have:=hh (numS (splitC 44 w)[i]) (List.mem_map_of_mem (List.getElem_mem i1))
        simp at this; omega
      simp (maxSteps:=1000000) (disch:=omega) only [rg,gD,simprocAttr,h0,e0]
      refine hR _ _ ?_
      simp (maxSteps:=1000000) (disch:=omega) only [rg,gD,simprocAttr]
      (refine fin_x rfl ?_ ?_<;>simp [pack,lo,loL,V.closed,closedL,mv_closed,e,tkO,taskV,vI,mv])
    · have e1:vI (((splitC 44 w).take i).map numS)++[.int .i64 (numS (splitC 44 w)[i])]=vI (((splitC 44 w).take (i+1)).map numS):=by
        rw [List.take_succ_eq_append_getElem i1,List.map_append]; exact mv_app1
      simp (maxSteps:=1000000) (disch:=omega) only [rg,gD,simprocAttr,h0]
      refine app_gro hG (by omega) (ys:=[.int .i64 (numS (splitC 44 w)[i])]) rfl (by simp) (by rw [vI_len,List.length_map,List.length_take]; simp; omega) fun v' fp ds hG' hk1 _ => ?_
      rw [e1] at hG'
      simp (maxSteps:=1000000) (disch:=omega) only [rg,gD,simprocAttr]
      refine hN _ _ i1 ⟨v',by simp only []; omega,(hk1 0 (by omega)).trans e0,hG', ?_,rfl⟩
      rw [List.take_succ_eq_append_getElem i1,List.map_append,List.all_append,ha]
      simp; omega
  · obtain rfl:i=(splitC 44 w).length:=by omega
    rw [List.take_length] at hG ha
    refine hX _ _ _ ?_
    simp (maxSteps:=1000000) (disch:=omega) only [rg,gD,simprocAttr]
    obtain ⟨fz,st,f1,f2,f3⟩:=hG.frz vI_closed
    have d0:without fz m 0=some (.arr 4 [.agg [.fsl .nil 1 [],.int .i64 0,.int .i64 0,.int .i64 0]]):=by
      simp only [without]; rw [if_neg (fun h => by have:=f1 _ h; omega)]; exact e0
    refine x_frz fz ?_
    simp only at d0 ⊢
    generalize without fz m=m' at d0
    have hall:((splitC 44 w).map numS).all (fun n => decide (0≤n))=true:=ha
    have hll:((splitC 44 w).map numS).length=(splitC 44 w).length:=by simp
    by_cases h3:(splitC 44 w).length < 3
    · have e:taskP w=none:=by rw [taskP,if_pos hall,mkTask_none (by rw [hll]; exact h3)]
      simp (maxSteps:=1000000) (disch:=omega) only [rg,gD,simprocAttr,f3,frz_p,vI_len,hll,d0,show ((splitC 44 w).length:Int) < 3 by omega]
      (refine fin_x rfl ?_ ?_<;>simp [pack,lo,loL,V.closed,closedL,mv_closed,e,tkO,taskV,vI,mv])
    · have e:taskP w=mkTask ((splitC 44 w).map numS):=by rw [taskP,if_pos hall]
      rw [e]
      generalize (splitC 44 w).map numS=l at hll f3
      match l,hll with
      | [],hll => simp at hll; omega
      | [_],hll => simp at hll; omega
      | [_,_],hll => simp at hll; omega
      | a::b::c::r,hll =>
        have hrl:(splitC 44 w).length=r.length+3:=by simp at hll; omega
        have hv3:vI (a::b::c::r)=.int .i64 a::.int .i64 b::.int .i64 c::vI r:=rfl
        rw [hv3] at f3
        simp (maxSteps:=1000000) (disch:=omega) only [rg,gD,simprocAttr,f3,frz_p,d0]
        refine ⟨fun h => absurd h (by omega),fun _ => ⟨by simp [compat,disj,nthL],fun h4 => ⟨by omega, ?_⟩,fun h4 => ?_⟩⟩
        · (refine fin_x rfl ?_ ?_<;>simp [pack,lo,loL,V.closed,closedL,mv_closed,mkTask,tkO,taskV,List.take_length,vI_lo,vI_closed])
        · have hr0:(vI r).length=0:=by omega
          rw [vI_len] at hr0
          obtain rfl:=List.eq_nil_of_length_eq_zero hr0
          (refine fin_x rfl ?_ ?_<;>simp [pack,lo,loL,V.closed,closedL,mv_closed,mkTask,tkO,taskV,vI,mv])
section
theorem vS_cons (a:Str) (l:List Str):vS (a::l)=.str a::vS l:=rfl
theorem vS_nil:vS []=[]:=rfl
theorem p_next (H:Hp) (b:Nat) (rest:List Str) (hb:b < H.n) (hm:H.m b=some (.arr 1 [.fsl .full 1 (vS rest)])) :
    ACall Tryz.prog 36 [.ptr b 0 0] H [b] (.str (rest.headD [])) [(b,some (.arr 1 [.fsl .full 1 (vS rest.tail)]))] 0:=by
  refine ena36 (by simp) (by simp [lowL,V.low,hb]) (fun id hid => ?_) (by simp) ?_
  · simp at hid; subst hid
    exact ⟨hb,fun o ho => by rw [hm] at ho; simp at ho; subst ho; exact lowL_closed _ (by simp [closedL,V.closed,vS_closed])⟩
  have q1:only [b] H.m b=some (.arr 1 [.fsl .full 1 (vS rest)]):=by simp [only,hm]
  cases rest with
  | nil =>
    rw [vS_nil] at q1
    simp (maxSteps:=1000000) (disch:=omega) only [rg,gD,simprocAttr,c36,q1]
    exact fin_A (l:=[.str []]) rfl (.inl rfl) (by simp) (fun id => .inr (by by_cases h:id=b<;>simp [appd,upd,h,q1,vS_nil]))
  | cons a r =>
    rw [vS_cons] at q1
    simp (maxSteps:=1000000) (disch:=omega) only [rg,gD,simprocAttr,c36,q1]
    refine ⟨fun h => absurd h (by omega),fun _ => ⟨by omega,fin_A (l:=[.str a]) rfl (.inl rfl) (by simp) (fun id => .inr (by by_cases h:id=b<;>simp [appd,upd,h,slSt]))⟩⟩
/-! Bounds of what is read. -/
theorem numS_le (s:Str):numS s≤9223372036854775807:=by
  unfold numS
  split
  · rename_i v hv
    have:=atoi_range hv
    split<;>omega
  · omega
theorem taskP_ok {w:Str} {t:Task} (h:taskP w=some t):t.needs.length≤w.length+1∧(∀ x∈t.needs,x≤9223372036854775807)∧t.tries≤9223372036854775807∧t.wait≤9223372036854775807∧t.lease≤9223372036854775807:=by
  unfold taskP at h
  split at h
  · have hb:∀ x∈(splitC 44 w).map numS,x≤9223372036854775807:=fun x hx => by obtain ⟨y,_,rfl⟩:=List.mem_map.1 hx; exact numS_le y
    have hn:((splitC 44 w).map numS).length≤w.length+1:=by rw [List.length_map]; exact splitC_len 44 w
    generalize (splitC 44 w).map numS=l at *
    match l with
    | [] => simp [mkTask] at h
    | [_] => simp [mkTask] at h
    | [_,_] => simp [mkTask] at h
    | a::b::c::r =>
      simp only [mkTask,Option.some.injEq] at h; subst h
      refine ⟨by simp at hn ⊢; omega,fun x hx => hb x (by simp [hx]),hb a (by simp),hb b (by simp),hb c (by simp)⟩
  · cases h
theorem takeT_ok {f:Str→Option Task} {q:Task→Prop}:∀ {l:List Str},(∀ w∈l,∀ t,f w=some t→q t)→∀ t∈(takeT f l).1,q t
  | [],_,t,ht => by simp [takeT] at ht
  | w::l,h,t,ht => by
    simp only [takeT] at ht
    cases hw:f w with
    | none => rw [hw] at ht; simp at ht
    | some u =>
      rw [hw] at ht
      rcases List.mem_cons.1 ht with rfl | ht
      · exact h w (by simp) _ hw
      · exact takeT_ok (fun x hx => h x (by simp [hx])) t ht
theorem takeT_len (f:Str→Option Task):∀ l:List Str,(takeT f l).1.length≤l.length
  | [] => by simp [takeT]
  | w::l => by
    have:=takeT_len f l
    simp only [takeT]; split
    · simp
    · simp only [List.length_cons]; omega
theorem okC {k:Int} {key nm txt:Str} {tok tm:Int} {d:Dag} (h1:key.length≤1000000000) (h2:nm.length≤1000000000) (h3:txt.length≤1000000000) (h4:tok≤9223372036854775807) (h5:tm≤9223372036854775807)
    (hd:d.tasks.length≤1000000002∧(∀ t∈d.tasks,t.needs.length≤1000000001∧(∀ x∈t.needs,x≤9223372036854775807)∧t.tries≤9223372036854775807∧t.wait≤9223372036854775807∧t.lease≤9223372036854775807)):okCmd ⟨k,key,nm,tok,tm,txt,d⟩:=by
  refine ⟨by simp only; omega,by simp only; omega,by simp only; omega,by simp only; omega,fun t ht => ?_,fun t ht => ?_,h4,h5⟩
  · have:=(hd.2 t ht).1; omega
  · exact (hd.2 t ht).2
theorem zeroD_ok:zeroD.tasks.length≤1000000002∧(∀ t∈zeroD.tasks,t.needs.length≤1000000001∧(∀ x∈t.needs,x≤9223372036854775807)∧t.tries≤9223372036854775807∧t.wait≤9223372036854775807∧t.lease≤9223372036854775807) :=
  ⟨by simp [zeroD],fun t ht => by simp [zeroD] at ht⟩
theorem head_len {l:List Str} {N:Nat} (h:∀ w∈l,w.length≤N):(l.headD []).length≤N:=by
  cases l with
  | nil => simp
  | cons a r => exact h a (by simp)
theorem tail_len {l:List Str} {N:Nat} (h:∀ w∈l,w.length≤N):∀ w∈l.tail,w.length≤N:=fun w hw => h w (List.mem_of_mem_tail hw)
theorem stpV_lo (s:Stp):lo (stpV s)=stpV s:=by simp [stpV,lo,loL,tasksV_lo,vI_lo]
set_option maxHeartbeats 2000000 in
theorem p_parse (text:Str) (hl:text.length≤1000000000):PCall Tryz.prog 15 [.str text] (.tup [stpV (parseS text).1,.bool (parseS text).2]):=by
  refine en15 (by simp) (by simp [closedL,V.closed]) ?_
  simp (maxSteps:=1000000) (disch:=omega) only [rg,gD,simprocAttr,c15]
  refine ⟨_,p_split text 32 (by omega), ?_⟩
  have hpl:=piece_len 32 text
  have hsl:=splitC_len 32 text
  obtain ⟨first,rest,hsp⟩:∃ w ws,splitC 32 text=w::ws:=by cases h:splitC 32 text with | nil => exact absurd h (splitC_ne 32 text) | cons w ws => exact ⟨w,ws,rfl⟩
  rw [hsp] at hpl hsl ⊢
  have hr:∀ w∈rest,w.length≤1000000000:=fun w hw => Nat.le_trans (hpl w (by simp [hw])) hl
  have hrl:rest.length≤1000000000:=by simp at hsl; omega
  simp (maxSteps:=1000000) (disch:=omega) only [rg,gD,simprocAttr,vS_cons]
  refine ⟨by omega,by simp [compat,disj,nthL],fun c0 => ?_,fun c0 => ⟨fun c1 => ?_,fun c1 => ⟨fun c2 => ?_,fun c2 => ⟨fun c3 => ?_,fun c3 => ⟨fun c4 => ?_,fun c4 => ⟨fun c5 => ?_,fun c5 => ⟨fun c6 => ?_,fun c6 => ⟨fun c7 => ?_,fun c7 => ⟨fun c8 => ?_,fun c8 => ⟨fun c9 => ?_,fun c9 => ⟨fun c10 => ?_,fun c10 => ⟨fun c11 => ?_,fun c11 => ?_⟩⟩⟩⟩⟩⟩⟩⟩⟩⟩⟩⟩
  · -- crash
    have e:parseS text=(⟨zeroC,false,true,rest.map numS⟩,stpB ⟨zeroC,false,true,rest.map numS⟩):=by rw [parseS,hsp,rawP,if_pos (show first=wCrash from c0)]; simp
    refine x_it rest.length (fun i σ H => ∃ v,3≤H.n∧H.m 0=some (.arr 11 [.agg [.int .i64 0,.str [],.str [],.int .i64 0,.int .i64 0,.str [],.str [],.fsl .nil 4 [],.bool false,.bool false,.fsl .nil 1 []]])∧H.m 1=some (.arr 1 [.fsl .full 1 (vS (rest.drop i))])∧H.m 2=some (.arr 11 [.agg [.int .i64 0,.str [],.str [],.int .i64 0,.int .i64 0,.str [],.str [],.fsl .nil 4 [],.bool false,.bool true,v]])∧Gro 3 H.n H.m 1 v (vI ((rest.take i).map numS))∧σ=[(2,.ptr 0 0 0),(6,.ptr 1 0 0),(7,.fn 36 [] [.ptr 1 0 0]),(8,.ptr 2 0 0)]) ⟨_,by simp,(by simp (disch:=omega) only [upd_eq,upd_ne,wo_0,wo_1,wo_2]),by simp (disch:=omega) only [upd_eq,upd_ne,slSt,if_true,List.take_length,List.drop_zero],(by simp (disch:=omega) only [upd_eq,upd_ne,wo_0,wo_1,wo_2]),Gro.nil,rfl⟩ ?_
    rintro T i σ ⟨n,m⟩ hi ⟨v,hn3,e0,e1,e2,hG,rfl⟩ hN hX hR
    simp only at hn3 e0 e1 e2 hG
    simp (maxSteps:=1000000) (disch:=omega) only [rg,gD,simprocAttr,e1]
    refine ⟨fun hlt => ?_,fun hlt => ?_⟩
    · have i1:i < rest.length:=by rw [vS_len',List.length_drop] at hlt; omega
      have hd:rest.drop i=rest[i]::rest.drop (i+1):=by rw [List.drop_eq_getElem_cons i1]
      have e3:vI ((rest.take i).map numS)++[.int .i64 (numS rest[i])]=vI ((rest.take (i+1)).map numS):=by
        rw [List.take_succ_eq_append_getElem i1,List.map_append]; exact mv_app1
      simp (maxSteps:=1000000) (disch:=omega) only [rg,gD,simprocAttr,e1,e2]
      refine ⟨_,_,_,_,p_next _ 1 (rest.drop i) (by show 1 < n; omega) (by simp (disch:=omega) only [upd_eq,upd_ne,wo_0,wo_1,wo_2,e1]), ?_⟩
      rw [hd,List.headD_cons,List.tail_cons]
      simp (maxSteps:=1000000) (disch:=omega) only [rg,gD,simprocAttr]
      refine ⟨by simp [compat,disj,nthL], ?_⟩
      refine ⟨_,p_number _ (Nat.le_trans (hr _ (List.getElem_mem i1)) (by omega)), ?_⟩
      simp (maxSteps:=1000000) (disch:=omega) only [rg,gD,simprocAttr]
      refine app_gro (hG.keep (Nat.le_refl _) (fun id h1 h2 => by simp (disch:=omega) only [upd_ne])) (by show 3≤n; omega) (ys:=[.int .i64 (numS rest[i])]) rfl (by simp) (by rw [vI_len,List.length_map,List.length_take]; simp; omega) fun v' fp ds hG' hk1 _ => ?_
      rw [e3] at hG'
      have k0:=hk1 0 (by omega)
      have k1:=hk1 1 (by omega)
      have k2:=hk1 2 (by omega)
      simp (disch:=omega) only [upd_eq,upd_ne] at k0 k1 k2
      rw [e0] at k0
      rw [e2] at k2
      have hc:=hG'.cell
      simp only at hG'
      simp (maxSteps:=1000000) (disch:=omega) only [rg,gD,simprocAttr,k2,hc]
      refine hN _ _ i1 ?_
      exact ⟨v',by show 3≤n+1; omega,(by simp (disch:=omega) only [upd_eq,upd_ne,wo_0,wo_1,wo_2,k0]),(by simp (disch:=omega) only [upd_eq,upd_ne,wo_0,wo_1,wo_2,k1]),(by simp (disch:=omega) only [upd_eq,upd_ne,wo_0,wo_1,wo_2]),by exact hG'.keep (Nat.le_refl _) (fun id h1 h2 => by simp (disch:=omega) only [upd_ne]),rfl⟩
    · have hie:i=rest.length:=by rw [vS_len',List.length_drop] at hlt; omega
      subst hie
      rw [List.take_length] at hG
      refine hX _ _ _ ?_
      simp (maxSteps:=1000000) (disch:=omega) only [rg,gD,simprocAttr]
      rw [e]
      have hl0:((vS (rest.drop rest.length)).length:Int)=0:=by rw [List.drop_length]; rfl
      obtain ⟨fz,st,f1,f2,f3⟩:=hG.frz vI_closed
      have d0:=frl_cl (fz:=fz) (ids:=[]) e0 (by simp [closedL,V.closed]) (fun h => by have:=f1 _ h; omega) (by simp)
      have d1:=frl_cl (fz:=fz) (ids:=[]) e1 (by simp [closedL,V.closed,vS_closed]) (fun h => by have:=f1 _ h; omega) (by simp)
      have d2:=frl_get (fz:=fz) (ids:=[]) e2 (fun h => by have:=f1 _ h; omega) (by simp)
      have k2:frzV fz m (.agg [.int .i64 0,.str [],.str [],.int .i64 0,.int .i64 0,.str [],.str [],.fsl .nil 4 [],.bool false,.bool true,v])=.agg [.int .i64 0,.str [],.str [],.int .i64 0,.int .i64 0,.str [],.str [],.fsl .nil 4 [],.bool false,.bool true,.fsl st 1 (vI (rest.map numS))]:=frzV_mid (pre:=[.int .i64 0,.str [],.str [],.int .i64 0,.int .i64 0,.str [],.str [],.fsl .nil 4 [],.bool false,.bool true]) (post:=[]) f2 rfl rfl
      rw [List.map_cons,List.map_nil,k2] at d2
      refine x_frzL fz [] ?_
      simp only at d0 d1 d2 ⊢
      generalize loH [] (frzH fz m)=m' at d0 d1 d2
      simp (maxSteps:=1000000) (disch:=omega) only [rg,gD,simprocAttr]
      refine x_frz0 ?_
      simp (maxSteps:=1000000) (disch:=omega) only [rg,gD,simprocAttr,frz_p,d0,d1,d2,hl0]
      refine ⟨_,PCall.of_eq (p_step ⟨zeroC,false,true,rest.map numS⟩ (okC (by simp) (by simp) (by simp) (by omega) (by omega) zeroD_ok) (by simp; omega)) (by simp [loL,lo,stpV,zeroD,zeroC,tasksV,mv,vI_lo]), ?_⟩
      simp (maxSteps:=1000000) (disch:=omega) only [rg,gD,simprocAttr,d0]
      (refine fin_x rfl ?_ ?_<;>simp [pack,lo,loL,V.closed,closedL,mv_closed,stpV,zeroD,zeroC,tasksV,mv,vI_lo,vI_closed])
  · -- check
    rw [show parseS text=((⟨zeroC,true,false,[]⟩:Stp),decide ((rest:List Str)=[]) && stpB ((⟨zeroC,true,false,[]⟩:Stp))) from by rw [parseS,hsp,rawP,if_neg (show ¬ first=wCrash from c0),if_pos (show first=wCheck from c1)]]
    simp (maxSteps:=1000000) (disch:=omega) only [rg,gD,simprocAttr]
    refine x_frz0 ?_
    refine x_frz0 ?_
    by_cases hlf:(rest:List Str)=[]
    · have hll:((vS (rest)).length:Int)=0:=by rw [hlf]; rfl
      simp (maxSteps:=1000000) (disch:=omega) only [rg,gD,simprocAttr,List.take_length,hll]
      refine ⟨_,PCall.of_eq (p_step ((⟨zeroC,true,false,[]⟩:Stp)) (okC (by simp) (by simp) (by simp) (by omega) (by omega) zeroD_ok) (by simp [mkS])) (by simp [loL,lo,stpV,mkS,zeroD,zeroC,tasksV,vI,mv]), ?_⟩
      simp (maxSteps:=1000000) (disch:=omega) only [rg,gD,simprocAttr]
      (refine fin_x rfl ?_ ?_<;>simp [pack,lo,loL,V.closed,closedL,mv_closed,hlf,stpV,mkS,zeroD,zeroC,tasksV,vI,mv])
    · have hll:¬ ((vS (rest)).length:Int)=0:=by rw [vS_len']; intro h; exact hlf (List.eq_nil_of_length_eq_zero (by omega))
      simp (maxSteps:=1000000) (disch:=omega) only [rg,gD,simprocAttr,List.take_length,hll]
      (refine fin_x rfl ?_ ?_<;>simp [pack,lo,loL,V.closed,closedL,mv_closed,hlf,stpV,mkS,zeroD,zeroC,tasksV,vI,mv])
  · -- graph
    refine ⟨_,_,_,_,p_next _ 1 rest (by simp) (by simp (disch:=omega) only [upd_eq,upd_ne,slSt,if_true,List.take_length]), ?_⟩
    simp (maxSteps:=1000000) (disch:=omega) only [rg,gD,simprocAttr]
    refine x_it rest.tail.length (fun i σ H => ∃ v ts,3≤H.n∧H.m 0=some (.arr 11 [.agg [.int .i64 0,.str [],.str [],.int .i64 0,.int .i64 0,.str [],.str [],.fsl .nil 4 [],.bool false,.bool false,.fsl .nil 1 []]])∧H.m 1=some (.arr 1 [.fsl .full 1 (vS (rest.tail.drop i))])∧H.m 2=some (.arr 11 [.agg [.int .i64 1,.str [],.str [],.int .i64 0,.int .i64 0,.str [],.str (rest.headD []),v,.bool false,.bool false,.fsl .nil 1 []]])∧Gro 3 H.n H.m 4 v (mv taskV ts)∧ts.length≤i∧takeT taskP rest.tail=(ts++(takeT taskP (rest.tail.drop i)).1,(takeT taskP (rest.tail.drop i)).2)∧σ=[(2,.ptr 0 0 0),(6,.ptr 1 0 0),(7,.fn 36 [] [.ptr 1 0 0]),(8,.ptr 2 0 0),(9,.ptr 2 0 0)]) ⟨_,[],by simp,(by simp (disch:=omega) only [upd_eq,upd_ne,wo_0,wo_1,wo_2]),by simp (disch:=omega) only [upd_eq,upd_ne,List.drop_zero],(by simp (disch:=omega) only [upd_eq,upd_ne,wo_0,wo_1,wo_2]),Gro.nil,by simp,by simp,rfl⟩ ?_
    rintro T i σ ⟨n,m⟩ hi ⟨v,ts,hn3,e0,e1,e2,hG,htl,htk,rfl⟩ hN hX hR
    simp only at hn3 e0 e1 e2 hG
    simp (maxSteps:=1000000) (disch:=omega) only [rg,gD,simprocAttr,e1]
    refine ⟨fun hlt => ?_,fun hlt => ?_⟩
    · have i1:i < rest.tail.length:=by rw [vS_len',List.length_drop] at hlt; omega
      have hd:rest.tail.drop i=rest.tail[i]::rest.tail.drop (i+1):=by rw [List.drop_eq_getElem_cons i1]
      have hwl:=tail_len hr rest.tail[i] (List.getElem_mem i1)
      have hne:n≠0∧n≠1∧n≠2:=by omega
      rw [hd,takeT] at htk
      refine ⟨_,_,_,_,p_next _ 1 (rest.tail.drop i) (by show 1 < n; omega) (by simp (disch:=omega) only [upd_eq,upd_ne,wo_0,wo_1,wo_2,e1]), ?_⟩
      rw [hd,List.headD_cons,List.tail_cons]
      simp (maxSteps:=1000000) (disch:=omega) only [rg,gD,simprocAttr]
      refine ⟨_,p_task _ (Nat.le_trans hwl (by omega)), ?_⟩
      cases hw:taskP rest.tail[i] with
      | none =>
        rw [hw] at htk
        have e:parseS text=(zeroS,false):=by rw [parseS,hsp,rawP,if_neg (show ¬ first=wCrash from c0),if_neg (show ¬ first=wCheck from c1),if_pos (show first=wGraph from c2),htk]; rfl
        simp (maxSteps:=1000000) (disch:=omega) only [rg,gD,simprocAttr,tkO,taskV,e0]
        refine hR _ _ ?_
        rw [e]
        simp (maxSteps:=1000000) (disch:=omega) only [rg,gD,simprocAttr]
        (refine fin_x rfl ?_ ?_<;>simp [pack,lo,loL,V.closed,closedL,mv_closed,zeroS,stpV,zeroD,zeroC,tasksV,vI,mv])
      | some t =>
        rw [hw] at htk
        have e3:mv taskV ts++[taskV t]=mv taskV (ts++[t]):=mv_app1
        simp (maxSteps:=1000000) (disch:=omega) only [rg,gD,simprocAttr,tkO,taskV,e2]
        refine app_gro (hG.keep (by simp only []; omega) (fun id h1 h2 => by simp (disch:=omega) only [upd_ne])) (by show 3≤n+1; omega) (ys:=[taskV t]) rfl (by simp) (by rw [mv_len]; have:=rest.length_tail; simp; omega) fun v' fp ds hG' hk1 _ => ?_
        rw [e3] at hG'
        have k0:=hk1 0 (by omega)
        have k1:=hk1 1 (by omega)
        have k2:=hk1 2 (by omega)
        simp (disch:=omega) only [upd_eq,upd_ne] at k0 k1 k2
        rw [e0] at k0
        rw [e2] at k2
        have hc:=hG'.cell
        simp only at hG'
        simp (maxSteps:=1000000) (disch:=omega) only [rg,gD,simprocAttr,k2,hc]
        refine hN _ _ i1 ?_
        exact ⟨v',ts++[t],by show 3≤n+1+1; omega,(by simp (disch:=omega) only [upd_eq,upd_ne,wo_0,wo_1,wo_2,k0]),(by simp (disch:=omega) only [upd_eq,upd_ne,wo_0,wo_1,wo_2,k1]),(by simp (disch:=omega) only [upd_eq,upd_ne,wo_0,wo_1,wo_2]),by exact hG'.keep (Nat.le_refl _) (fun id h1 h2 => by simp (disch:=omega) only [upd_ne]),by simp; omega,by rw [htk]; simp,rfl⟩
    · have hie:i=rest.tail.length:=by rw [vS_len',List.length_drop] at hlt; omega
      subst hie
      rw [List.drop_length] at htk
      simp only [takeT,List.append_nil] at htk
      have e:parseS text=(mkS ⟨1,[],[],0,0,[],⟨rest.headD [],ts⟩⟩,stpB (mkS ⟨1,[],[],0,0,[],⟨rest.headD [],ts⟩⟩)):=by rw [parseS,hsp,rawP,if_neg (show ¬ first=wCrash from c0),if_neg (show ¬ first=wCheck from c1),if_pos (show first=wGraph from c2),htk]; simp
      have hts:ts=(takeT taskP rest.tail).1:=by rw [htk]
      refine hX _ _ _ ?_
      simp (maxSteps:=1000000) (disch:=omega) only [rg,gD,simprocAttr]
      rw [e]
      have hl0:((vS (rest.tail.drop rest.tail.length)).length:Int)=0:=by rw [List.drop_length]; rfl
      obtain ⟨fz,st,f1,f2,f3⟩:=hG.frz (mv_closed taskV_closed)
      have d0:=frl_cl (fz:=fz) (ids:=[]) e0 (by simp [closedL,V.closed]) (fun h => by have:=f1 _ h; omega) (by simp)
      have d1:=frl_cl (fz:=fz) (ids:=[]) e1 (by simp [closedL,V.closed,vS_closed]) (fun h => by have:=f1 _ h; omega) (by simp)
      have d2:=frl_get (fz:=fz) (ids:=[]) e2 (fun h => by have:=f1 _ h; omega) (by simp)
      have k2:frzV fz m (.agg [.int .i64 1,.str [],.str [],.int .i64 0,.int .i64 0,.str [],.str (rest.headD []),v,.bool false,.bool false,.fsl .nil 1 []])=.agg [.int .i64 1,.str [],.str [],.int .i64 0,.int .i64 0,.str [],.str (rest.headD []),.fsl st 4 (mv taskV ts),.bool false,.bool false,.fsl .nil 1 []]:=frzV_mid (pre:=[.int .i64 1,.str [],.str [],.int .i64 0,.int .i64 0,.str [],.str (rest.headD [])]) (post:=[.bool false,.bool false,.fsl .nil 1 []]) f2 rfl rfl
      rw [List.map_cons,List.map_nil,k2] at d2
      refine x_frzL fz [] ?_
      simp only at d0 d1 d2 ⊢
      generalize loH [] (frzH fz m)=m' at d0 d1 d2
      simp (maxSteps:=1000000) (disch:=omega) only [rg,gD,simprocAttr]
      refine x_frz0 ?_
      simp (maxSteps:=1000000) (disch:=omega) only [rg,gD,simprocAttr,frz_p,d0,d1,d2,hl0]
      refine ⟨_,PCall.of_eq (p_step (mkS ⟨1,[],[],0,0,[],⟨rest.headD [],ts⟩⟩) (okC (by simp) (by simp) (by simp) (by omega) (by omega) ⟨by simp only; have:=rest.length_tail; omega,fun t ht => ?_⟩) (by simp [mkS])) (by simp [loL,lo,stpV,mkS,tasksV,mv_lo taskV_lo,show vI []=[] from rfl]), ?_⟩
      · simp only [hts] at ht
        refine takeT_ok (q:=fun t => t.needs.length≤1000000001∧(∀ x∈t.needs,x≤9223372036854775807)∧t.tries≤9223372036854775807∧t.wait≤9223372036854775807∧t.lease≤9223372036854775807) (fun w hw t ht => ?_) t ht
        obtain ⟨q1,q2⟩:=taskP_ok ht
        have:=tail_len hr w hw
        exact ⟨by omega,q2⟩
      simp (maxSteps:=1000000) (disch:=omega) only [rg,gD,simprocAttr,d0]
      (refine fin_x rfl ?_ ?_<;>simp [pack,lo,loL,V.closed,closedL,mv_closed,stpV,mkS,tasksV,mv_lo taskV_lo,mv_closed taskV_closed,show vI []=[] from rfl])
  · -- start
    rw [show parseS text=(mkS ⟨2,rest.headD [],rest.tail.headD [],0,0,[],zeroD⟩,decide ((rest.tail.tail:List Str)=[]) && stpB (mkS ⟨2,rest.headD [],rest.tail.headD [],0,0,[],zeroD⟩)) from by rw [parseS,hsp,rawP,if_neg (show ¬ first=wCrash from c0),if_neg (show ¬ first=wCheck from c1),if_neg (show ¬ first=wGraph from c2),if_pos (show first=wStart from c3)]]
    refine ⟨_,_,_,_,p_next _ 1 (rest) (by simp) (by simp (disch:=omega) only [upd_eq,upd_ne,slSt,if_true,List.take_length]), ?_⟩
    simp (maxSteps:=1000000) (disch:=omega) only [rg,gD,simprocAttr]
    refine ⟨_,_,_,_,p_next _ 1 (rest.tail) (by simp) (by simp (disch:=omega) only [upd_eq,upd_ne,slSt,if_true,List.take_length]), ?_⟩
    simp (maxSteps:=1000000) (disch:=omega) only [rg,gD,simprocAttr]
    refine x_frz0 ?_
    simp (maxSteps:=1000000) (disch:=omega) only [rg,gD,simprocAttr]
    refine x_frz0 ?_
    by_cases hlf:(rest.tail.tail:List Str)=[]
    · have hll:((vS (rest.tail.tail)).length:Int)=0:=by rw [hlf]; rfl
      simp (maxSteps:=1000000) (disch:=omega) only [rg,gD,simprocAttr,List.take_length,hll]
      refine ⟨_,PCall.of_eq (p_step (mkS ⟨2,rest.headD [],rest.tail.headD [],0,0,[],zeroD⟩) (okC (head_len hr) (head_len (tail_len hr)) (by simp) (by omega) (by omega) zeroD_ok) (by simp [mkS])) (by simp [loL,lo,stpV,mkS,zeroD,zeroC,tasksV,vI,mv]), ?_⟩
      simp (maxSteps:=1000000) (disch:=omega) only [rg,gD,simprocAttr]
      (refine fin_x rfl ?_ ?_<;>simp [pack,lo,loL,V.closed,closedL,mv_closed,hlf,stpV,mkS,zeroD,zeroC,tasksV,vI,mv])
    · have hll:¬ ((vS (rest.tail.tail)).length:Int)=0:=by rw [vS_len']; intro h; exact hlf (List.eq_nil_of_length_eq_zero (by omega))
      simp (maxSteps:=1000000) (disch:=omega) only [rg,gD,simprocAttr,List.take_length,hll]
      (refine fin_x rfl ?_ ?_<;>simp [pack,lo,loL,V.closed,closedL,mv_closed,hlf,stpV,mkS,zeroD,zeroC,tasksV,vI,mv])
  · -- poll
    rw [show parseS text=(mkS ⟨3,[],[],0,0,[],zeroD⟩,decide ((rest:List Str)=[]) && stpB (mkS ⟨3,[],[],0,0,[],zeroD⟩)) from by rw [parseS,hsp,rawP,if_neg (show ¬ first=wCrash from c0),if_neg (show ¬ first=wCheck from c1),if_neg (show ¬ first=wGraph from c2),if_neg (show ¬ first=wStart from c3),if_pos (show first=wPoll from c4)]]
    refine x_frz0 ?_
    simp (maxSteps:=1000000) (disch:=omega) only [rg,gD,simprocAttr]
    refine x_frz0 ?_
    by_cases hlf:(rest:List Str)=[]
    · have hll:((vS (rest)).length:Int)=0:=by rw [hlf]; rfl
      simp (maxSteps:=1000000) (disch:=omega) only [rg,gD,simprocAttr,List.take_length,hll]
      refine ⟨_,PCall.of_eq (p_step (mkS ⟨3,[],[],0,0,[],zeroD⟩) (okC (by simp) (by simp) (by simp) (by omega) (by omega) zeroD_ok) (by simp [mkS])) (by simp [loL,lo,stpV,mkS,zeroD,zeroC,tasksV,vI,mv]), ?_⟩
      simp (maxSteps:=1000000) (disch:=omega) only [rg,gD,simprocAttr]
      (refine fin_x rfl ?_ ?_<;>simp [pack,lo,loL,V.closed,closedL,mv_closed,hlf,stpV,mkS,zeroD,zeroC,tasksV,vI,mv])
    · have hll:¬ ((vS (rest)).length:Int)=0:=by rw [vS_len']; intro h; exact hlf (List.eq_nil_of_length_eq_zero (by omega))
      simp (maxSteps:=1000000) (disch:=omega) only [rg,gD,simprocAttr,List.take_length,hll]
      (refine fin_x rfl ?_ ?_<;>simp [pack,lo,loL,V.closed,closedL,mv_closed,hlf,stpV,mkS,zeroD,zeroC,tasksV,vI,mv])
  · -- wBeat
    rw [show parseS text=(mkS ⟨4,[],[],numS (rest.headD []),0,[],zeroD⟩,decide ((rest.tail:List Str)=[]) && stpB (mkS ⟨4,[],[],numS (rest.headD []),0,[],zeroD⟩)) from by rw [parseS,hsp,rawP,if_neg (show ¬ first=wCrash from c0),if_neg (show ¬ first=wCheck from c1),if_neg (show ¬ first=wGraph from c2),if_neg (show ¬ first=wStart from c3),if_neg (show ¬ first=wPoll from c4),if_pos (show first=wBeat from c5)]]
    refine ⟨_,_,_,_,p_next _ 1 (rest) (by simp) (by simp (disch:=omega) only [upd_eq,upd_ne,slSt,if_true,List.take_length]), ?_⟩
    simp (maxSteps:=1000000) (disch:=omega) only [rg,gD,simprocAttr]
    refine ⟨_,p_number _ (Nat.le_trans (head_len hr) (by omega)), ?_⟩
    simp (maxSteps:=1000000) (disch:=omega) only [rg,gD,simprocAttr]
    refine x_frz0 ?_
    simp (maxSteps:=1000000) (disch:=omega) only [rg,gD,simprocAttr]
    refine x_frz0 ?_
    by_cases hlf:(rest.tail:List Str)=[]
    · have hll:((vS (rest.tail)).length:Int)=0:=by rw [hlf]; rfl
      simp (maxSteps:=1000000) (disch:=omega) only [rg,gD,simprocAttr,List.take_length,hll]
      refine ⟨_,PCall.of_eq (p_step (mkS ⟨4,[],[],numS (rest.headD []),0,[],zeroD⟩) (okC (by simp) (by simp) (by simp) (numS_le _) (by omega) zeroD_ok) (by simp [mkS])) (by simp [loL,lo,stpV,mkS,zeroD,zeroC,tasksV,vI,mv]), ?_⟩
      simp (maxSteps:=1000000) (disch:=omega) only [rg,gD,simprocAttr]
      (refine fin_x rfl ?_ ?_<;>simp [pack,lo,loL,V.closed,closedL,mv_closed,hlf,stpV,mkS,zeroD,zeroC,tasksV,vI,mv])
    · have hll:¬ ((vS (rest.tail)).length:Int)=0:=by rw [vS_len']; intro h; exact hlf (List.eq_nil_of_length_eq_zero (by omega))
      simp (maxSteps:=1000000) (disch:=omega) only [rg,gD,simprocAttr,List.take_length,hll]
      (refine fin_x rfl ?_ ?_<;>simp [pack,lo,loL,V.closed,closedL,mv_closed,hlf,stpV,mkS,zeroD,zeroC,tasksV,vI,mv])
  · -- done
    refine ⟨_,_,_,_,p_next _ 1 rest (by simp) (by simp (disch:=omega) only [upd_eq,upd_ne,slSt,if_true,List.take_length]), ?_⟩
    simp (maxSteps:=1000000) (disch:=omega) only [rg,gD,simprocAttr]
    refine ⟨_,p_number _ (Nat.le_trans (head_len hr) (by omega)), ?_⟩
    simp (maxSteps:=1000000) (disch:=omega) only [rg,gD,simprocAttr]
    by_cases ht:rest.tail=[]
    · have hl0:((vS rest.tail).length:Int)=0:=by rw [ht]; rfl
      rw [show parseS text=(mkS ⟨5,[],[],numS (rest.headD []),0,[],zeroD⟩,decide (([]:List Str)=[]) && stpB (mkS ⟨5,[],[],numS (rest.headD []),0,[],zeroD⟩)) from by rw [parseS,hsp,rawP,if_neg (show ¬ first=wCrash from c0),if_neg (show ¬ first=wCheck from c1),if_neg (show ¬ first=wGraph from c2),if_neg (show ¬ first=wStart from c3),if_neg (show ¬ first=wPoll from c4),if_neg (show ¬ first=wBeat from c5),if_pos (show first=wDone from c6),if_pos ht]]
      simp (maxSteps:=1000000) (disch:=omega) only [rg,gD,simprocAttr,hl0,show ¬ (0:Int) < 0 by omega]
      refine x_frz0 ?_
      simp (maxSteps:=1000000) (disch:=omega) only [rg,gD,simprocAttr]
      refine x_frz0 ?_
      simp (maxSteps:=1000000) (disch:=omega) only [rg,gD,simprocAttr,List.take_length,hl0]
      refine ⟨_,PCall.of_eq (p_step (mkS ⟨5,[],[],numS (rest.headD []),0,[],zeroD⟩) (okC (by simp) (by simp) (by simp) (numS_le _) (by omega) zeroD_ok) (by simp [mkS])) (by simp [loL,lo,stpV,mkS,zeroD,zeroC,tasksV,vI,mv]), ?_⟩
      simp (maxSteps:=1000000) (disch:=omega) only [rg,gD,simprocAttr]
      (refine fin_x rfl ?_ ?_<;>simp [pack,lo,loL,V.closed,closedL,mv_closed,stpV,mkS,zeroD,zeroC,tasksV,vI,mv])
    · have hl0:(0:Int) < (vS rest.tail).length:=by rw [vS_len']; have:=List.length_pos_iff.2 ht; omega
      simp (maxSteps:=1000000) (disch:=omega) only [rg,gD,simprocAttr,hl0]
      refine ⟨_,_,_,_,p_next _ 1 rest.tail (by simp) (by simp (disch:=omega) only [upd_eq,upd_ne,slSt,if_true,List.take_length]), ?_⟩
      simp (maxSteps:=1000000) (disch:=omega) only [rg,gD,simprocAttr]
      by_cases hx:rest.tail.headD []=[]
      · rw [show parseS text=(zeroS,false) from by rw [parseS,hsp,rawP,if_neg (show ¬ first=wCrash from c0),if_neg (show ¬ first=wCheck from c1),if_neg (show ¬ first=wGraph from c2),if_neg (show ¬ first=wStart from c3),if_neg (show ¬ first=wPoll from c4),if_neg (show ¬ first=wBeat from c5),if_pos (show first=wDone from c6),if_neg ht,if_pos hx]]
        simp (maxSteps:=1000000) (disch:=omega) only [rg,gD,simprocAttr,hx]
        (refine fin_x rfl ?_ ?_<;>simp [pack,lo,loL,V.closed,closedL,mv_closed,zeroS,stpV,zeroD,zeroC,tasksV,vI,mv])
      · rw [show parseS text=(mkS ⟨5,[],[],numS (rest.headD []),0,rest.tail.headD [],zeroD⟩,decide ((rest.tail.tail:List Str)=[]) && stpB (mkS ⟨5,[],[],numS (rest.headD []),0,rest.tail.headD [],zeroD⟩)) from by rw [parseS,hsp,rawP,if_neg (show ¬ first=wCrash from c0),if_neg (show ¬ first=wCheck from c1),if_neg (show ¬ first=wGraph from c2),if_neg (show ¬ first=wStart from c3),if_neg (show ¬ first=wPoll from c4),if_neg (show ¬ first=wBeat from c5),if_pos (show first=wDone from c6),if_neg ht,if_neg hx]]
        simp (maxSteps:=1000000) (disch:=omega) only [rg,gD,simprocAttr,hx]
        refine x_frz0 ?_
        simp (maxSteps:=1000000) (disch:=omega) only [rg,gD,simprocAttr]
        refine x_frz0 ?_
        by_cases hlf:(rest.tail.tail:List Str)=[]
        · have hll:((vS (rest.tail.tail)).length:Int)=0:=by rw [hlf]; rfl
          simp (maxSteps:=1000000) (disch:=omega) only [rg,gD,simprocAttr,List.take_length,hll]
          refine ⟨_,PCall.of_eq (p_step (mkS ⟨5,[],[],numS (rest.headD []),0,rest.tail.headD [],zeroD⟩) (okC (by simp) (by simp) (head_len (tail_len hr)) (numS_le _) (by omega) zeroD_ok) (by simp [mkS])) (by simp [loL,lo,stpV,mkS,zeroD,zeroC,tasksV,vI,mv]), ?_⟩
          simp (maxSteps:=1000000) (disch:=omega) only [rg,gD,simprocAttr]
          (refine fin_x rfl ?_ ?_<;>simp [pack,lo,loL,V.closed,closedL,mv_closed,hlf,stpV,mkS,zeroD,zeroC,tasksV,vI,mv])
        · have hll:¬ ((vS (rest.tail.tail)).length:Int)=0:=by rw [vS_len']; intro h; exact hlf (List.eq_nil_of_length_eq_zero (by omega))
          simp (maxSteps:=1000000) (disch:=omega) only [rg,gD,simprocAttr,List.take_length,hll]
          (refine fin_x rfl ?_ ?_<;>simp [pack,lo,loL,V.closed,closedL,mv_closed,hlf,stpV,mkS,zeroD,zeroC,tasksV,vI,mv])
  · -- wFail
    rw [show parseS text=(mkS ⟨6,[],[],numS (rest.headD []),0,[],zeroD⟩,decide ((rest.tail:List Str)=[]) && stpB (mkS ⟨6,[],[],numS (rest.headD []),0,[],zeroD⟩)) from by rw [parseS,hsp,rawP,if_neg (show ¬ first=wCrash from c0),if_neg (show ¬ first=wCheck from c1),if_neg (show ¬ first=wGraph from c2),if_neg (show ¬ first=wStart from c3),if_neg (show ¬ first=wPoll from c4),if_neg (show ¬ first=wBeat from c5),if_neg (show ¬ first=wDone from c6),if_pos (show first=wFail from c7)]]
    refine ⟨_,_,_,_,p_next _ 1 (rest) (by simp) (by simp (disch:=omega) only [upd_eq,upd_ne,slSt,if_true,List.take_length]), ?_⟩
    simp (maxSteps:=1000000) (disch:=omega) only [rg,gD,simprocAttr]
    refine ⟨_,p_number _ (Nat.le_trans (head_len hr) (by omega)), ?_⟩
    simp (maxSteps:=1000000) (disch:=omega) only [rg,gD,simprocAttr]
    refine x_frz0 ?_
    simp (maxSteps:=1000000) (disch:=omega) only [rg,gD,simprocAttr]
    refine x_frz0 ?_
    by_cases hlf:(rest.tail:List Str)=[]
    · have hll:((vS (rest.tail)).length:Int)=0:=by rw [hlf]; rfl
      simp (maxSteps:=1000000) (disch:=omega) only [rg,gD,simprocAttr,List.take_length,hll]
      refine ⟨_,PCall.of_eq (p_step (mkS ⟨6,[],[],numS (rest.headD []),0,[],zeroD⟩) (okC (by simp) (by simp) (by simp) (numS_le _) (by omega) zeroD_ok) (by simp [mkS])) (by simp [loL,lo,stpV,mkS,zeroD,zeroC,tasksV,vI,mv]), ?_⟩
      simp (maxSteps:=1000000) (disch:=omega) only [rg,gD,simprocAttr]
      (refine fin_x rfl ?_ ?_<;>simp [pack,lo,loL,V.closed,closedL,mv_closed,hlf,stpV,mkS,zeroD,zeroC,tasksV,vI,mv])
    · have hll:¬ ((vS (rest.tail)).length:Int)=0:=by rw [vS_len']; intro h; exact hlf (List.eq_nil_of_length_eq_zero (by omega))
      simp (maxSteps:=1000000) (disch:=omega) only [rg,gD,simprocAttr,List.take_length,hll]
      (refine fin_x rfl ?_ ?_<;>simp [pack,lo,loL,V.closed,closedL,mv_closed,hlf,stpV,mkS,zeroD,zeroC,tasksV,vI,mv])
  · -- wCancel
    rw [show parseS text=(mkS ⟨7,rest.headD [],[],0,0,[],zeroD⟩,decide ((rest.tail:List Str)=[]) && stpB (mkS ⟨7,rest.headD [],[],0,0,[],zeroD⟩)) from by rw [parseS,hsp,rawP,if_neg (show ¬ first=wCrash from c0),if_neg (show ¬ first=wCheck from c1),if_neg (show ¬ first=wGraph from c2),if_neg (show ¬ first=wStart from c3),if_neg (show ¬ first=wPoll from c4),if_neg (show ¬ first=wBeat from c5),if_neg (show ¬ first=wDone from c6),if_neg (show ¬ first=wFail from c7),if_pos (show first=wCancel from c8)]]
    refine ⟨_,_,_,_,p_next _ 1 (rest) (by simp) (by simp (disch:=omega) only [upd_eq,upd_ne,slSt,if_true,List.take_length]), ?_⟩
    simp (maxSteps:=1000000) (disch:=omega) only [rg,gD,simprocAttr]
    refine x_frz0 ?_
    simp (maxSteps:=1000000) (disch:=omega) only [rg,gD,simprocAttr]
    refine x_frz0 ?_
    by_cases hlf:(rest.tail:List Str)=[]
    · have hll:((vS (rest.tail)).length:Int)=0:=by rw [hlf]; rfl
      simp (maxSteps:=1000000) (disch:=omega) only [rg,gD,simprocAttr,List.take_length,hll]
      refine ⟨_,PCall.of_eq (p_step (mkS ⟨7,rest.headD [],[],0,0,[],zeroD⟩) (okC (head_len hr) (by simp) (by simp) (by omega) (by omega) zeroD_ok) (by simp [mkS])) (by simp [loL,lo,stpV,mkS,zeroD,zeroC,tasksV,vI,mv]), ?_⟩
      simp (maxSteps:=1000000) (disch:=omega) only [rg,gD,simprocAttr]
      (refine fin_x rfl ?_ ?_<;>simp [pack,lo,loL,V.closed,closedL,mv_closed,hlf,stpV,mkS,zeroD,zeroC,tasksV,vI,mv])
    · have hll:¬ ((vS (rest.tail)).length:Int)=0:=by rw [vS_len']; intro h; exact hlf (List.eq_nil_of_length_eq_zero (by omega))
      simp (maxSteps:=1000000) (disch:=omega) only [rg,gD,simprocAttr,List.take_length,hll]
      (refine fin_x rfl ?_ ?_<;>simp [pack,lo,loL,V.closed,closedL,mv_closed,hlf,stpV,mkS,zeroD,zeroC,tasksV,vI,mv])
  · -- wTick
    rw [show parseS text=(mkS ⟨8,[],[],0,numS (rest.headD []),[],zeroD⟩,decide ((rest.tail:List Str)=[]) && stpB (mkS ⟨8,[],[],0,numS (rest.headD []),[],zeroD⟩)) from by rw [parseS,hsp,rawP,if_neg (show ¬ first=wCrash from c0),if_neg (show ¬ first=wCheck from c1),if_neg (show ¬ first=wGraph from c2),if_neg (show ¬ first=wStart from c3),if_neg (show ¬ first=wPoll from c4),if_neg (show ¬ first=wBeat from c5),if_neg (show ¬ first=wDone from c6),if_neg (show ¬ first=wFail from c7),if_neg (show ¬ first=wCancel from c8),if_pos (show first=wTick from c9)]]
    refine ⟨_,_,_,_,p_next _ 1 (rest) (by simp) (by simp (disch:=omega) only [upd_eq,upd_ne,slSt,if_true,List.take_length]), ?_⟩
    simp (maxSteps:=1000000) (disch:=omega) only [rg,gD,simprocAttr]
    refine ⟨_,p_number _ (Nat.le_trans (head_len hr) (by omega)), ?_⟩
    simp (maxSteps:=1000000) (disch:=omega) only [rg,gD,simprocAttr]
    refine x_frz0 ?_
    simp (maxSteps:=1000000) (disch:=omega) only [rg,gD,simprocAttr]
    refine x_frz0 ?_
    by_cases hlf:(rest.tail:List Str)=[]
    · have hll:((vS (rest.tail)).length:Int)=0:=by rw [hlf]; rfl
      simp (maxSteps:=1000000) (disch:=omega) only [rg,gD,simprocAttr,List.take_length,hll]
      refine ⟨_,PCall.of_eq (p_step (mkS ⟨8,[],[],0,numS (rest.headD []),[],zeroD⟩) (okC (by simp) (by simp) (by simp) (by omega) (numS_le _) zeroD_ok) (by simp [mkS])) (by simp [loL,lo,stpV,mkS,zeroD,zeroC,tasksV,vI,mv]), ?_⟩
      simp (maxSteps:=1000000) (disch:=omega) only [rg,gD,simprocAttr]
      (refine fin_x rfl ?_ ?_<;>simp [pack,lo,loL,V.closed,closedL,mv_closed,hlf,stpV,mkS,zeroD,zeroC,tasksV,vI,mv])
    · have hll:¬ ((vS (rest.tail)).length:Int)=0:=by rw [vS_len']; intro h; exact hlf (List.eq_nil_of_length_eq_zero (by omega))
      simp (maxSteps:=1000000) (disch:=omega) only [rg,gD,simprocAttr,List.take_length,hll]
      (refine fin_x rfl ?_ ?_<;>simp [pack,lo,loL,V.closed,closedL,mv_closed,hlf,stpV,mkS,zeroD,zeroC,tasksV,vI,mv])
  · -- wState
    rw [show parseS text=(mkS ⟨9,rest.headD [],[],0,0,[],zeroD⟩,decide ((rest.tail:List Str)=[]) && stpB (mkS ⟨9,rest.headD [],[],0,0,[],zeroD⟩)) from by rw [parseS,hsp,rawP,if_neg (show ¬ first=wCrash from c0),if_neg (show ¬ first=wCheck from c1),if_neg (show ¬ first=wGraph from c2),if_neg (show ¬ first=wStart from c3),if_neg (show ¬ first=wPoll from c4),if_neg (show ¬ first=wBeat from c5),if_neg (show ¬ first=wDone from c6),if_neg (show ¬ first=wFail from c7),if_neg (show ¬ first=wCancel from c8),if_neg (show ¬ first=wTick from c9),if_pos (show first=wState from c10)]]
    refine ⟨_,_,_,_,p_next _ 1 (rest) (by simp) (by simp (disch:=omega) only [upd_eq,upd_ne,slSt,if_true,List.take_length]), ?_⟩
    simp (maxSteps:=1000000) (disch:=omega) only [rg,gD,simprocAttr]
    refine x_frz0 ?_
    simp (maxSteps:=1000000) (disch:=omega) only [rg,gD,simprocAttr]
    refine x_frz0 ?_
    by_cases hlf:(rest.tail:List Str)=[]
    · have hll:((vS (rest.tail)).length:Int)=0:=by rw [hlf]; rfl
      simp (maxSteps:=1000000) (disch:=omega) only [rg,gD,simprocAttr,List.take_length,hll]
      refine ⟨_,PCall.of_eq (p_step (mkS ⟨9,rest.headD [],[],0,0,[],zeroD⟩) (okC (head_len hr) (by simp) (by simp) (by omega) (by omega) zeroD_ok) (by simp [mkS])) (by simp [loL,lo,stpV,mkS,zeroD,zeroC,tasksV,vI,mv]), ?_⟩
      simp (maxSteps:=1000000) (disch:=omega) only [rg,gD,simprocAttr]
      (refine fin_x rfl ?_ ?_<;>simp [pack,lo,loL,V.closed,closedL,mv_closed,hlf,stpV,mkS,zeroD,zeroC,tasksV,vI,mv])
    · have hll:¬ ((vS (rest.tail)).length:Int)=0:=by rw [vS_len']; intro h; exact hlf (List.eq_nil_of_length_eq_zero (by omega))
      simp (maxSteps:=1000000) (disch:=omega) only [rg,gD,simprocAttr,List.take_length,hll]
      (refine fin_x rfl ?_ ?_<;>simp [pack,lo,loL,V.closed,closedL,mv_closed,hlf,stpV,mkS,zeroD,zeroC,tasksV,vI,mv])
  · -- sync
    rw [show parseS text=(mkS ⟨10,[],[],0,0,[],zeroD⟩,decide ((rest:List Str)=[]) && stpB (mkS ⟨10,[],[],0,0,[],zeroD⟩)) from by rw [parseS,hsp,rawP,if_neg (show ¬ first=wCrash from c0),if_neg (show ¬ first=wCheck from c1),if_neg (show ¬ first=wGraph from c2),if_neg (show ¬ first=wStart from c3),if_neg (show ¬ first=wPoll from c4),if_neg (show ¬ first=wBeat from c5),if_neg (show ¬ first=wDone from c6),if_neg (show ¬ first=wFail from c7),if_neg (show ¬ first=wCancel from c8),if_neg (show ¬ first=wTick from c9),if_neg (show ¬ first=wState from c10),if_pos (show first=wSync from c11)]]
    refine x_frz0 ?_
    simp (maxSteps:=1000000) (disch:=omega) only [rg,gD,simprocAttr]
    refine x_frz0 ?_
    by_cases hlf:(rest:List Str)=[]
    · have hll:((vS (rest)).length:Int)=0:=by rw [hlf]; rfl
      simp (maxSteps:=1000000) (disch:=omega) only [rg,gD,simprocAttr,List.take_length,hll]
      refine ⟨_,PCall.of_eq (p_step (mkS ⟨10,[],[],0,0,[],zeroD⟩) (okC (by simp) (by simp) (by simp) (by omega) (by omega) zeroD_ok) (by simp [mkS])) (by simp [loL,lo,stpV,mkS,zeroD,zeroC,tasksV,vI,mv]), ?_⟩
      simp (maxSteps:=1000000) (disch:=omega) only [rg,gD,simprocAttr]
      (refine fin_x rfl ?_ ?_<;>simp [pack,lo,loL,V.closed,closedL,mv_closed,hlf,stpV,mkS,zeroD,zeroC,tasksV,vI,mv])
    · have hll:¬ ((vS (rest)).length:Int)=0:=by rw [vS_len']; intro h; exact hlf (List.eq_nil_of_length_eq_zero (by omega))
      simp (maxSteps:=1000000) (disch:=omega) only [rg,gD,simprocAttr,List.take_length,hll]
      (refine fin_x rfl ?_ ?_<;>simp [pack,lo,loL,V.closed,closedL,mv_closed,hlf,stpV,mkS,zeroD,zeroC,tasksV,vI,mv])
  · -- none
    rw [show parseS text=(zeroS,false) from by rw [parseS,hsp,rawP,if_neg (show ¬ first=wCrash from c0),if_neg (show ¬ first=wCheck from c1),if_neg (show ¬ first=wGraph from c2),if_neg (show ¬ first=wStart from c3),if_neg (show ¬ first=wPoll from c4),if_neg (show ¬ first=wBeat from c5),if_neg (show ¬ first=wDone from c6),if_neg (show ¬ first=wFail from c7),if_neg (show ¬ first=wCancel from c8),if_neg (show ¬ first=wTick from c9),if_neg (show ¬ first=wState from c10),if_neg (show ¬ first=wSync from c11)]]
    (refine fin_x rfl ?_ ?_<;>simp [pack,lo,loL,V.closed,closedL,mv_closed,zeroS,stpV,zeroD,zeroC,tasksV,vI,mv])
end
section
theorem app_lit {H:Hp} {sz bt:Nat} {l ys:List V} {st':St} {K:KI} (hl:(l.length+ys.length)*bt≤140737488355328) (k0:ys=[]→K (.fsl .full sz l) [] [] 0)
    (k1:ys≠[]→K (.sl H.n 0 (l++ys).length) [] [(H.n,some (.arr sz (l++ys)))] 1):fin (appO H sz bt (.fsl .full sz l) (.fsl st' sz ys)) K:=by
  cases ys with
  | nil => exact ⟨⟨rfl,rfl⟩,k0 rfl⟩
  | cons a ys =>
    have:=k1 (by simp)
    rw [List.length_append] at this
    exact ⟨⟨rfl,rfl,by decide,hl⟩,this⟩
theorem lineOk {ws:List Str} (h:∀ w∈ws,w.length≤1000) (hn:ws.length≤1000):(Lib.join ws [32]).length≤1000000000:=by
  have h1:=join_len (sep:=[32]) h
  have h2:ws.length*([(32:UInt8)].length+1000)≤1000*([(32:UInt8)].length+1000):=Nat.mul_le_mul_right _ hn
  simp only [List.length_singleton] at h1 h2
  omega
def okTk (t:Task):Prop:=(∀ x∈t.needs,i64 x)∧i64 t.tries∧i64 t.wait∧i64 t.lease
theorem tk_in {t:Task} (h:okTk t):∀ x∈[t.tries,t.wait,t.lease]++t.needs,i64 x:=by
  intro x hx
  simp only [List.mem_append,List.mem_cons,List.not_mem_nil,or_false] at hx
  rcases hx with (rfl | rfl | rfl) | hx
  · exact h.2.1
  · exact h.2.2.1
  · exact h.2.2.2
  · exact h.1 x hx
theorem taskW_len {t:Task} (h:okTk t) (hn:t.needs.length≤10):(taskW t).length≤1000:=by
  have h1:=join_len (sep:=[44]) (numW_in (tk_in h))
  rw [numW_len] at h1
  have h2:([t.tries,t.wait,t.lease]++t.needs).length≤13:=by simp; omega
  have h3:=Nat.mul_le_mul_right ([(44:UInt8)].length+20) h2
  simp only [List.length_singleton] at h1 h3
  unfold taskW; omega
def okLn (s:Stp):Prop:=stpB s=true∧i64 s.cmd.token∧i64 s.cmd.time∧(∀ t∈s.cmd.dag.tasks,okTk t)∧∀ x∈s.masks,i64 x
set_option maxHeartbeats 1000000 in
theorem p_lineOf (s:Stp) (h:okLn s):PCall Tryz.prog 28 [stpV s] (.str (lineS s)):=by
  refine en28 (by simp) (by simp [closedL,stpV_closed]) ?_
  obtain ⟨hb,hi1,hi2,hts,hms⟩:=h
  obtain ⟨c,chk,cr,ms⟩:=s
  simp only at hi1 hi2 hts hms
  have a20:=itoa_len hi1
  have b20:=itoa_len hi2
  cases cr with
  | true =>
    have h64:ms.length≤64:=by simp [stpB] at hb; exact hb.1.2
    have e:lineS ⟨c,chk,true,ms⟩=lineW (wCrash::numW ms):=by simp [lineS,wordsS]
    have hlen:(Lib.join (wCrash::numW ms) [32]).length≤1000000000:=lineOk (by
      intro w hw
      rcases List.mem_cons.1 hw with rfl | hw
      · decide
      · have:=numW_in hms w hw; omega) (by simp [numW_len]; omega)
    simp (maxSteps:=1000000) (disch:=omega) only [rg,gD,simprocAttr,c28,stpV,tasksV]
    refine ⟨_,_,_,_,(p_numbers .loose ms hms (by omega)).toA _ [], ?_⟩
    simp (maxSteps:=1000000) (disch:=omega) only [rg,gD,simprocAttr]
    refine app_lit (by simp [vS_len',numW_len]; omega) (fun h0 => ?_) (fun h0 => ?_)
    · have hm0:numW ms=[]:=by cases hq:numW ms with | nil => rfl | cons a l => rw [hq] at h0; simp [vS,mv] at h0
      rw [hm0] at e hlen
      simp (maxSteps:=1000000) (disch:=omega) only [rg,gD,simprocAttr]
      refine ⟨_,_,_,_,(p_line .full [wCrash] (by simp) hlen).toA _ [], ?_⟩
      simp (maxSteps:=1000000) (disch:=omega) only [rg,gD,simprocAttr]
      (refine fin_x rfl ?_ ?_<;>simp [pack,lo,loL,V.closed,closedL,mv_closed,e])
    · simp (maxSteps:=1000000) (disch:=omega) only [rg,gD,simprocAttr]
      refine ⟨_,_,_,_,(p_line .loose (wCrash::numW ms) (by simp [numW_len]; omega) hlen).own1 (by simp only [upd_eq]; rfl) vS_closed (by simp [vS_len',numW_len]), ?_⟩
      simp (maxSteps:=1000000) (disch:=omega) only [rg,gD,simprocAttr]
      (refine fin_x rfl ?_ ?_<;>simp [pack,lo,loL,V.closed,closedL,mv_closed,e])
  | false =>
  cases chk with
  | true =>
    have e:lineS ⟨c,true,false,ms⟩=lineW [wCheck]:=by simp [lineS,wordsS]
    simp (maxSteps:=1000000) (disch:=omega) only [rg,gD,simprocAttr,c28,stpV,tasksV]
    refine ⟨_,_,_,_,(p_line .full [wCheck] (by simp) (lineOk (by simp [wCheck]) (by simp))).toA _ [], ?_⟩
    simp (maxSteps:=1000000) (disch:=omega) only [rg,gD,simprocAttr]
    (refine fin_x rfl ?_ ?_<;>simp [pack,lo,loL,V.closed,closedL,mv_closed,e])
  | false =>
  have hcm:lineCmd c=true:=by simp [stpB] at hb; exact hb.1
  have hP:cmdP c:=by simp [lineCmd] at hcm; exact hcm.1.1
  have hfit:fitP c:=hP.2.2.2.1
  unfold fitP at hfit
  simp (maxSteps:=1000000) (disch:=omega) only [rg,gD,simprocAttr,c28,stpV,tasksV]
  by_cases k1:c.kind=1
  · have hd:=right_fit (hP.2.2.2.2 k1)
    have e:lineS ⟨c,false,false,ms⟩=lineW ([wGraph,c.dag.name]++c.dag.tasks.map taskW):=by simp [lineS,wordsS,wordsL,k1]
    simp (maxSteps:=1000000) (disch:=omega) only [rg,gD,simprocAttr,k1,mv_len]
    refine x_it c.dag.tasks.length (fun i σ H => ∃ v,2≤H.n∧Bfo H 1 v (vS ([wGraph,c.dag.name]++(c.dag.tasks.take i).map taskW))∧σ=[(4,v),(33,.fsl .loose 4 (mv taskV c.dag.tasks)),(34,.int .i64 c.dag.tasks.length),(35,.int .i64 i)]) ⟨_,by simp,.inl ⟨.full,by decide,rfl⟩,rfl⟩ ?_
    rintro T i σ ⟨n,m⟩ hi ⟨v,hn2,hb',rfl⟩ hN hX hR
    simp only at hn2
    simp (maxSteps:=1000000) (disch:=omega) only [rg,gD,simprocAttr]
    refine ⟨fun hlt => ?_,fun hlt => ?_⟩
    · have i1:i < c.dag.tasks.length:=by omega
      have ht:=hts c.dag.tasks[i] (List.getElem_mem i1)
      have hnl:=hd.2.2.2.2 c.dag.tasks[i] (List.getElem_mem i1)
      have htw:=taskW_len ht hnl
      have e1:vS ([wGraph,c.dag.name]++(c.dag.tasks.take i).map taskW)++[.str (taskW c.dag.tasks[i])]=vS ([wGraph,c.dag.name]++(c.dag.tasks.take (i+1)).map taskW):=by
        rw [List.take_succ_eq_append_getElem i1,List.map_append,← List.append_assoc]; exact mv_app1
      simp (maxSteps:=1000000) (disch:=omega) only [rg,gD,simprocAttr,mv_get,taskV]
      generalize htk:c.dag.tasks[i]=t at ht hnl htw e1
      have hnum:∀ st,PCall Tryz.prog 46 [.fsl st 1 (vI ([t.tries,t.wait,t.lease]++t.needs))] (.fsl .loose 1 (vS (numW ([t.tries,t.wait,t.lease]++t.needs)))):=fun st => p_numbers st _ (tk_in ht) (by simp; omega)
      have hj:=code_join .loose (numW ([t.tries,t.wait,t.lease]++t.needs)) [44] (by rw [numW_len]; simp; omega) (by unfold taskW at htw; omega)
      have hbn:Bfo ⟨n+1,upd m n (some (.arr 4 [.agg [.fsl .loose 1 (vI t.needs),.int .i64 t.tries,.int .i64 t.wait,.int .i64 t.lease]]))⟩ 1 v (vS ([wGraph,c.dag.name]++(c.dag.tasks.take i).map taskW)):=hb'.keep (by simp) (fun id hid => upd_ne (by simp only at hid; omega))
      have hsz:((vS ([wGraph,c.dag.name]++(c.dag.tasks.take i).map taskW)).length+[V.str (taskW t)].length)*16≤140737488355328:=by
        rw [vS_len']; simp [List.length_take]; omega
      refine app_lit (by simp [vI_len]; omega) (fun h0 => ?_) (fun h0 => ?_)
      · have hz:t.needs=[]:=by cases hq:t.needs with | nil => rfl | cons a l => rw [hq] at h0; simp [vI,mv] at h0
        rw [hz] at hnum hj
        simp (maxSteps:=1000000) (disch:=omega) only [rg,gD,simprocAttr]
        refine ⟨_,_,_,_,(hnum .full).toA _ [], ?_⟩
        simp (maxSteps:=1000000) (disch:=omega) only [rg,gD,simprocAttr]
        refine ⟨_,hj, ?_⟩
        simp (maxSteps:=1000000) (disch:=omega) only [rg,gD,simprocAttr]
        have ht0:taskW t=Lib.join (numW [t.tries,t.wait,t.lease]) [44]:=by simp [taskW,hz]
        refine app_bfo (hb'.keep (by simp only []; omega) (fun id hid => by simp only at hid; simp (disch:=omega) only [appd,upd_ne])) (ys:=[.str (taskW t)]) (by rw [ht0]; rfl) (by simp) hsz fun v' fp ds hb2 _ => ?_
        rw [e1] at hb2
        simp (maxSteps:=1000000) (disch:=omega) only [rg,gD,simprocAttr]
        exact hN _ _ i1 ⟨v',by simp only []; omega,hb2,rfl⟩
      · simp (maxSteps:=1000000) (disch:=omega) only [rg,gD,simprocAttr]
        refine ⟨_,_,_,_,(hnum .loose).own1 (by simp only [upd_eq]; rfl) vI_closed (by simp [vI_len,vI,mv]), ?_⟩
        simp (maxSteps:=1000000) (disch:=omega) only [rg,gD,simprocAttr]
        refine ⟨_,hj, ?_⟩
        simp (maxSteps:=1000000) (disch:=omega) only [rg,gD,simprocAttr]
        refine app_bfo (hb'.keep (by simp only []; omega) (fun id hid => by simp only at hid; simp (disch:=omega) only [appd,upd_ne])) (ys:=[.str (taskW t)]) rfl (by simp) hsz fun v' fp ds hb2 _ => ?_
        rw [e1] at hb2
        simp (maxSteps:=1000000) (disch:=omega) only [rg,gD,simprocAttr]
        exact hN _ _ i1 ⟨v',by simp only []; omega,hb2,rfl⟩
    · obtain rfl:i=c.dag.tasks.length:=by omega
      rw [List.take_length] at hb'
      refine hX _ _ _ ?_
      simp (maxSteps:=1000000) (disch:=omega) only [rg,gD,simprocAttr]
      obtain ⟨fz,st',hz⟩:=hb'.frz vS_closed
      refine x_frz fz ?_
      simp (maxSteps:=1000000) (disch:=omega) only [rg,gD,simprocAttr,hz]
      refine ⟨_,_,_,_,(p_line st' ([wGraph,c.dag.name]++c.dag.tasks.map taskW) (by simp; omega) (lineOk (by
        intro w hw
        simp only [List.mem_append,List.mem_cons,List.not_mem_nil,or_false,List.mem_map] at hw
        rcases hw with (rfl | rfl) | ⟨t,ht,rfl⟩
        · decide
        · omega
        · exact taskW_len (hts t ht) (hd.2.2.2.2 t ht)) (by simp; omega))).toA _ [], ?_⟩
      simp (maxSteps:=1000000) (disch:=omega) only [rg,gD,simprocAttr]
      (refine fin_x rfl ?_ ?_<;>simp [pack,lo,loL,V.closed,closedL,mv_closed,e])
  by_cases k2:c.kind=2
  · have e:lineS ⟨c,false,false,ms⟩=lineW [wStart,c.key,c.name]:=by simp [lineS,wordsS,wordsL,k1,k2]
    simp (maxSteps:=1000000) (disch:=omega) only [rg,gD,simprocAttr,k1,k2]
    refine ⟨_,_,_,_,(p_line .full [wStart,c.key,c.name] (by simp) (lineOk (by simp [wStart,wPoll,wBeat,wFail,wCancel,wTick,wState]; try omega) (by simp))).toA _ [], ?_⟩
    simp (maxSteps:=1000000) (disch:=omega) only [rg,gD,simprocAttr]
    (refine fin_x rfl ?_ ?_<;>simp [pack,lo,loL,V.closed,closedL,mv_closed,e])
  by_cases k3:c.kind=3
  · have e:lineS ⟨c,false,false,ms⟩=lineW [wPoll]:=by simp [lineS,wordsS,wordsL,k1,k2,k3]
    simp (maxSteps:=1000000) (disch:=omega) only [rg,gD,simprocAttr,k1,k2,k3]
    refine ⟨_,_,_,_,(p_line .full [wPoll] (by simp) (lineOk (by simp [wStart,wPoll,wBeat,wFail,wCancel,wTick,wState]; try omega) (by simp))).toA _ [], ?_⟩
    simp (maxSteps:=1000000) (disch:=omega) only [rg,gD,simprocAttr]
    (refine fin_x rfl ?_ ?_<;>simp [pack,lo,loL,V.closed,closedL,mv_closed,e])
  by_cases k4:c.kind=4
  · have e:lineS ⟨c,false,false,ms⟩=lineW [wBeat,Lib.itoa c.token]:=by simp [lineS,wordsS,wordsL,k1,k2,k3,k4]
    simp (maxSteps:=1000000) (disch:=omega) only [rg,gD,simprocAttr,k1,k2,k3,k4]
    refine ⟨_,p_itoa _ hi1, ?_⟩
    simp (maxSteps:=1000000) (disch:=omega) only [rg,gD,simprocAttr]
    refine ⟨_,_,_,_,(p_line .full [wBeat,Lib.itoa c.token] (by simp) (lineOk (by simp [wStart,wPoll,wBeat,wFail,wCancel,wTick,wState]; try omega) (by simp))).toA _ [], ?_⟩
    simp (maxSteps:=1000000) (disch:=omega) only [rg,gD,simprocAttr]
    (refine fin_x rfl ?_ ?_<;>simp [pack,lo,loL,V.closed,closedL,mv_closed,e])
  by_cases k5:c.kind=5
  · by_cases x:c.text=[]
    · have e:lineS ⟨c,false,false,ms⟩=lineW [wDone,Lib.itoa c.token]:=by simp [lineS,wordsS,wordsL,k1,k2,k3,k4,k5,x]
      simp (maxSteps:=1000000) (disch:=omega) only [rg,gD,simprocAttr,k1,k2,k3,k4,k5,x]
      refine ⟨_,p_itoa _ hi1, ?_⟩
      simp (maxSteps:=1000000) (disch:=omega) only [rg,gD,simprocAttr]
      refine ⟨_,_,_,_,(p_line .full [wDone,Lib.itoa c.token] (by simp) (lineOk (by simp [wDone]; omega) (by simp))).toA _ [], ?_⟩
      simp (maxSteps:=1000000) (disch:=omega) only [rg,gD,simprocAttr]
      (refine fin_x rfl ?_ ?_<;>simp [pack,lo,loL,V.closed,closedL,mv_closed,e])
    · have e:lineS ⟨c,false,false,ms⟩=lineW [wDone,Lib.itoa c.token,c.text]:=by simp [lineS,wordsS,wordsL,k1,k2,k3,k4,k5,x]
      simp (maxSteps:=1000000) (disch:=omega) only [rg,gD,simprocAttr,k1,k2,k3,k4,k5,x]
      refine ⟨_,p_itoa _ hi1, ?_⟩
      simp (maxSteps:=1000000) (disch:=omega) only [rg,gD,simprocAttr]
      refine ⟨_,_,_,_,(p_line .full [wDone,Lib.itoa c.token,c.text] (by simp) (lineOk (by simp [wDone]; omega) (by simp))).toA _ [], ?_⟩
      simp (maxSteps:=1000000) (disch:=omega) only [rg,gD,simprocAttr]
      (refine fin_x rfl ?_ ?_<;>simp [pack,lo,loL,V.closed,closedL,mv_closed,e])
  by_cases k6:c.kind=6
  · have e:lineS ⟨c,false,false,ms⟩=lineW [wFail,Lib.itoa c.token]:=by simp [lineS,wordsS,wordsL,k1,k2,k3,k4,k5,k6]
    simp (maxSteps:=1000000) (disch:=omega) only [rg,gD,simprocAttr,k1,k2,k3,k4,k5,k6]
    refine ⟨_,p_itoa _ hi1, ?_⟩
    simp (maxSteps:=1000000) (disch:=omega) only [rg,gD,simprocAttr]
    refine ⟨_,_,_,_,(p_line .full [wFail,Lib.itoa c.token] (by simp) (lineOk (by simp [wStart,wPoll,wBeat,wFail,wCancel,wTick,wState]; try omega) (by simp))).toA _ [], ?_⟩
    simp (maxSteps:=1000000) (disch:=omega) only [rg,gD,simprocAttr]
    (refine fin_x rfl ?_ ?_<;>simp [pack,lo,loL,V.closed,closedL,mv_closed,e])
  by_cases k7:c.kind=7
  · have e:lineS ⟨c,false,false,ms⟩=lineW [wCancel,c.key]:=by simp [lineS,wordsS,wordsL,k1,k2,k3,k4,k5,k6,k7]
    simp (maxSteps:=1000000) (disch:=omega) only [rg,gD,simprocAttr,k1,k2,k3,k4,k5,k6,k7]
    refine ⟨_,_,_,_,(p_line .full [wCancel,c.key] (by simp) (lineOk (by simp [wStart,wPoll,wBeat,wFail,wCancel,wTick,wState]; try omega) (by simp))).toA _ [], ?_⟩
    simp (maxSteps:=1000000) (disch:=omega) only [rg,gD,simprocAttr]
    (refine fin_x rfl ?_ ?_<;>simp [pack,lo,loL,V.closed,closedL,mv_closed,e])
  by_cases k8:c.kind=8
  · have e:lineS ⟨c,false,false,ms⟩=lineW [wTick,Lib.itoa c.time]:=by simp [lineS,wordsS,wordsL,k1,k2,k3,k4,k5,k6,k7,k8]
    simp (maxSteps:=1000000) (disch:=omega) only [rg,gD,simprocAttr,k1,k2,k3,k4,k5,k6,k7,k8]
    refine ⟨_,p_itoa _ hi2, ?_⟩
    simp (maxSteps:=1000000) (disch:=omega) only [rg,gD,simprocAttr]
    refine ⟨_,_,_,_,(p_line .full [wTick,Lib.itoa c.time] (by simp) (lineOk (by simp [wStart,wPoll,wBeat,wFail,wCancel,wTick,wState]; try omega) (by simp))).toA _ [], ?_⟩
    simp (maxSteps:=1000000) (disch:=omega) only [rg,gD,simprocAttr]
    (refine fin_x rfl ?_ ?_<;>simp [pack,lo,loL,V.closed,closedL,mv_closed,e])
  by_cases k9:c.kind=9
  · have e:lineS ⟨c,false,false,ms⟩=lineW [wState,c.key]:=by simp [lineS,wordsS,wordsL,k1,k2,k3,k4,k5,k6,k7,k8,k9]
    simp (maxSteps:=1000000) (disch:=omega) only [rg,gD,simprocAttr,k1,k2,k3,k4,k5,k6,k7,k8,k9]
    refine ⟨_,_,_,_,(p_line .full [wState,c.key] (by simp) (lineOk (by simp [wStart,wPoll,wBeat,wFail,wCancel,wTick,wState]; try omega) (by simp))).toA _ [], ?_⟩
    simp (maxSteps:=1000000) (disch:=omega) only [rg,gD,simprocAttr]
    (refine fin_x rfl ?_ ?_<;>simp [pack,lo,loL,V.closed,closedL,mv_closed,e])
  have e:lineS ⟨c,false,false,ms⟩=lineW [wSync]:=by simp [lineS,wordsS,wordsL,k1,k2,k3,k4,k5,k6,k7,k8,k9]
  simp (maxSteps:=1000000) (disch:=omega) only [rg,gD,simprocAttr,k1,k2,k3,k4,k5,k6,k7,k8,k9]
  refine x_frz0 ?_
  simp (maxSteps:=1000000) (disch:=omega) only [rg,gD,simprocAttr]
  refine ⟨_,_,_,_,(p_line .full [wSync] (by simp) (lineOk (by simp [wSync]) (by simp))).toA _ [], ?_⟩
  simp (maxSteps:=1000000) (disch:=omega) only [rg,gD,simprocAttr]
  (refine fin_x rfl ?_ ?_<;>simp [pack,lo,loL,V.closed,closedL,mv_closed,e])
end
/-! Words. -/
theorem wordsS_len {s:Stp} (h:okLn s):(Lib.join (wordsS s) [32]).length≤200000:=by
  obtain ⟨hb,hi1,hi2,hts,hms⟩:=h
  obtain ⟨c,chk,cr,ms⟩:=s
  simp only at hi1 hi2 hts hms
  have a20:=itoa_len hi1
  have b20:=itoa_len hi2
  have go:∀ ws:List Str,(∀ w∈ws,w.length≤1000)→ws.length≤100→(Lib.join ws [32]).length≤200000:=fun ws hw hn => by
    have h1:=join_len (sep:=[32]) hw
    have h2:ws.length*([(32:UInt8)].length+1000)≤100*([(32:UInt8)].length+1000):=Nat.mul_le_mul_right _ hn
    simp only [List.length_singleton] at h1 h2
    omega
  cases cr with
  | true =>
    have h64:ms.length≤64:=by simp [stpB] at hb; exact hb.1.2
    refine go _ (fun w hw => ?_) (by simp [wordsS,numW_len]; omega)
    simp only [wordsS,if_true,List.mem_append,List.mem_singleton] at hw
    rcases hw with rfl | hw
    · decide
    · have:=numW_in hms w hw; omega
  | false =>
  cases chk with
  | true => exact go _ (by simp [wordsS,wCheck]) (by simp [wordsS])
  | false =>
  have hcm:lineCmd c=true:=by simp [stpB] at hb; exact hb.1
  have hP:cmdP c:=by simp [lineCmd] at hcm; exact hcm.1.1
  have hfit:fitP c:=hP.2.2.2.1
  unfold fitP at hfit
  by_cases k1:c.kind=1
  · have hd:=right_fit (hP.2.2.2.2 k1)
    refine go _ (fun w hw => ?_) (by simp [wordsS,wordsL,k1]; omega)
    simp only [wordsS,wordsL,k1,if_true,List.mem_append,List.mem_cons,List.not_mem_nil,or_false,List.mem_map,Bool.false_eq_true,if_false] at hw
    rcases hw with (rfl | rfl) | ⟨t,ht,rfl⟩
    · decide
    · omega
    · exact taskW_len (hts t ht) (hd.2.2.2.2 t ht)
  · refine go _ (fun w hw => ?_) ?_
    · simp only [wordsS,wordsL,k1,if_false,Bool.false_eq_true] at hw
      repeat' split at hw
      all_goals (simp only [List.mem_cons,List.not_mem_nil,or_false] at hw)
      all_goals (first | (rcases hw with rfl | rfl | rfl) | (rcases hw with rfl | rfl) | (subst hw))
      all_goals first | decide | omega
    · simp only [wordsS,wordsL,k1,if_false,Bool.false_eq_true]
      repeat' split
      all_goals simp
def zeroP:Pln:=⟨0,[]⟩
def planF:Nat→Str→List Stp→Int→Pln×Int×Int
  | 0,_,acc,size => (⟨size,acc⟩,0,0)
  | f+1,s,acc,size =>
    if s=[] then (⟨size,acc⟩,0,0)
    else if (cutC 10 s).2.2=true∧(parseS (cutC 10 s).1).2=true∧acc.length < 200 then planF f (cutC 10 s).2.1 (acc++[(parseS (cutC 10 s).1).1]) size
    else (zeroP,250,acc.length+2)
def parsePl (s:Str):Pln×Int×Int :=
  if (cutC 10 s).2.2=true∧(cutC 32 (cutC 10 s).1).1=wSize∧planB ⟨numS (cutC 32 (cutC 10 s).1).2.1,[]⟩=true then planF s.length (cutC 10 s).2.1 [] (numS (cutC 32 (cutC 10 s).1).2.1)
  else (zeroP,250,1)
noncomputable def lineR (line:Str):Stp×Bool:=((readR (splitC 32 line)).1,(readR (splitC 32 line)).2 && (stpB (readR (splitC 32 line)).1 && decide (Lib.join (wordsS (readR (splitC 32 line)).1) [32]=line)))
noncomputable def planG:Nat→Str→List Stp→Int→Pln×Int×Int
  | 0,_,acc,size => (⟨size,acc⟩,0,0)
  | f+1,s,acc,size =>
    if s=[] then (⟨size,acc⟩,0,0)
    else if (cutC 10 s).2.2=true∧acc.length < 200∧(lineR (cutC 10 s).1).2=true then planG f (cutC 10 s).2.1 (acc++[(lineR (cutC 10 s).1).1]) size
    else (zeroP,250,acc.length+2)
def sizeR (w:List Str):Int:=if w.length=2∧w.headD []=wSize then refN (w.tail.headD []) else 0
noncomputable def refPl (s:Str):Pln×Int×Int :=
  if (cutC 10 s).2.2=true∧planB ⟨sizeR (splitC 32 (cutC 10 s).1),[]⟩=true then planG s.length (cutC 10 s).2.1 [] (sizeR (splitC 32 (cutC 10 s).1))
  else (zeroP,250,1)
theorem line_same (line:Str):(parseS line).2=(lineR line).2∧((parseS line).2=true→(parseS line).1=(lineR line).1):=by
  have h1:∀ y,parseS line=(y,true)↔lineC y line:=parse_iff line
  have h2:∀ y,(lineR line=(y,true))↔lineC y line:=fun y => by
    rw [← ref_iff]
    simp only [lineR,Prod.mk.injEq,Bool.and_eq_true,decide_eq_true_eq]
    constructor
    · rintro ⟨rfl,a,b,c⟩; exact ⟨by rw [← a],b,c⟩
    · rintro ⟨a,b,c⟩; rw [a]; exact ⟨rfl,rfl,b,c⟩
  cases hp:(parseS line).2 with
  | true =>
    have e1:parseS line=((parseS line).1,true):=by rw [← hp]
    have e2:=(h2 _).2 ((h1 _).1 e1)
    rw [e2]; exact ⟨rfl,fun _ => rfl⟩
  | false =>
    refine ⟨?_,fun h => by cases h⟩
    cases hl:(lineR line).2 with
    | false => rfl
    | true =>
      have e1:lineR line=((lineR line).1,true):=by rw [← hl]
      have e2:=(h1 _).2 ((h2 _).1 e1)
      rw [e2] at hp; cases hp
theorem planF_G:∀ (f:Nat) (s:Str) (acc:List Stp) (size:Int),planF f s acc size=planG f s acc size
  | 0,_,_,_ => rfl
  | f+1,s,acc,size => by
    obtain ⟨h1,h2⟩:=line_same (cutC 10 s).1
    rw [planF,planG,planF_G f]
    by_cases c0:s=[]
    · rw [if_pos c0,if_pos c0]
    rw [if_neg c0,if_neg c0]
    by_cases c:(cutC 10 s).2.2=true∧(parseS (cutC 10 s).1).2=true∧acc.length < 200
    · rw [if_pos c,if_pos ⟨c.1,c.2.2,h1 ▸ c.2.1⟩,h2 c.2.1]
    · rw [if_neg c,if_neg]
      rintro ⟨a,b,d⟩; exact c ⟨a,h1 ▸ d,b⟩
theorem num_none {s:Str} (h:s=[]∨(32:UInt8)∈s):¬ (0≤numS s):=by
  intro h0
  have hb:=numS_back h0
  rcases h with rfl | h
  · have:=digits_pos (numS []).toNat
    have e:numS []=-1:=by decide
    omega
  · rw [← hb] at h; exact itoa_no (.inl rfl) h
theorem planB_size {n:Int}:planB ⟨n,[]⟩=decide (24≤n∧n≤200):=by simp [planB]
theorem ref_num {s:Str} {n:Int} (h:0≤n∧n < 10000000000000):numS s=n↔refN s=n:=by
  constructor
  · intro e
    have hb:=numS_back (s:=s) (by omega)
    rw [e] at hb
    have:=refN_of n.toNat (by omega)
    rw [Int.toNat_of_nonneg h.1,hb] at this; exact this
  · intro e
    have hb:=refN_back (s:=s) (by omega)
    rw [e] at hb
    have:=numS_of n.toNat (by omega)
    rw [Int.toNat_of_nonneg h.1,hb] at this; exact this
theorem first_same (t:Str) (n:Int) (hn:24≤n∧n≤200):((cutC 32 t).1=wSize∧numS (cutC 32 t).2.1=n)↔sizeR (splitC 32 t)=n:=by
  rw [split_cut]
  cases hc:(cutC 32 t).2.2 with
  | false =>
    obtain ⟨h1,h2⟩:=cut_none 32 t hc
    rw [h2]
    constructor
    · rintro ⟨_,e⟩; have:numS []=-1:=by decide
      omega
    · intro e; simp [sizeR] at e; omega
  | true =>
    rw [if_pos rfl]
    by_cases hw:(cutC 32 t).1=wSize
    · by_cases hs:(32:UInt8)∈(cutC 32 t).2.1
      · have hl:¬ (splitC 32 (cutC 32 t).2.1).length=1:=by
          intro hl
          obtain ⟨w,hw⟩:=List.length_eq_one_iff.1 hl
          have hj:=join_split 32 (cutC 32 t).2.1
          have hf:∀ s:Str,(32:UInt8)∈s→(splitC 32 s).length≠1:=fun s hs hl => by
            rw [split_cut] at hl
            cases hc:(cutC 32 s).2.2 with
            | true => rw [hc,if_pos rfl] at hl; have:=splitC_ne 32 (cutC 32 s).2.1; simp only [List.length_cons] at hl; exact this (List.eq_nil_of_length_eq_zero (by omega))
            | false =>
              have:∀ s:Str,(cutC 32 s).2.2=false→(32:UInt8)∉s:=by
                intro s
                induction s with
                | nil => simp
                | cons b s ih =>
                  intro h
                  by_cases e:b=32
                  · simp [cutC,e] at h
                  · simp only [cutC,if_neg e] at h
                    rw [List.mem_cons,not_or]; exact ⟨Ne.symm e,ih h⟩
              exact this s hc hs
          exact hf _ hs hl
        constructor
        · rintro ⟨_,e⟩; exact absurd (by omega:(0:Int)≤numS (cutC 32 t).2.1) (num_none (.inr hs))
        · intro e
          rw [sizeR,if_neg (by rintro ⟨h,_⟩; simp only [List.length_cons] at h; omega)] at e; omega
      · have hsp:=split_free 32 _ hs
        rw [hsp]
        have e1:sizeR [(cutC 32 t).1,(cutC 32 t).2.1]=refN (cutC 32 t).2.1:=by rw [sizeR,if_pos ⟨rfl,hw⟩]; rfl
        rw [e1,← ref_num (by omega)]
        exact ⟨fun h => h.2,fun h => ⟨hw,h⟩⟩
    · constructor
      · rintro ⟨h,_⟩; exact absurd h hw
      · intro e
        rw [sizeR,if_neg (by rintro ⟨_,h⟩; exact hw h)] at e; omega
theorem parse_ref (s:Str):parsePl s=refPl s:=by
  unfold parsePl refPl
  have hf:=first_same (cutC 10 s).1
  by_cases c:(cutC 10 s).2.2=true∧(cutC 32 (cutC 10 s).1).1=wSize∧planB ⟨numS (cutC 32 (cutC 10 s).1).2.1,[]⟩=true
  · obtain ⟨c1,c2,c3⟩:=c
    rw [if_pos ⟨c1,c2,c3⟩]
    rw [planB_size,decide_eq_true_eq] at c3
    have e:=(hf _ c3).1 ⟨c2,rfl⟩
    rw [e,if_pos ⟨c1,by rw [planB_size]; exact decide_eq_true c3⟩,planF_G]
  · rw [if_neg c,if_neg]
    rintro ⟨a,b⟩
    rw [planB_size,decide_eq_true_eq] at b
    have:=(hf _ b).2 rfl
    refine c ⟨a,this.1, ?_⟩
    rw [planB_size,this.2]; exact decide_eq_true b
/-! No line has a line's end in it. -/
theorem itoa_no10 {v:Int}:(10:UInt8)∉Lib.itoa v:=by
  unfold Lib.itoa
  split
  · intro h
    rcases List.mem_cons.1 h with h | h
    · simp at h
    · have:=dec_all _ _ (Nat.le_refl _) 10 h
      simp at this
  · intro h
    have:=dec_all _ _ (Nat.le_refl _) 10 h
    simp at this
theorem name_no10 {s:Str} (h:nameB s=true):(10:UInt8)∉s:=by
  intro hm
  simp only [nameB,Bool.and_eq_true,List.all_eq_true] at h
  have:=h.2 10 hm
  simp [lowB] at this
theorem join_no {c:UInt8} {sep:Str} (hs:c∉sep):∀ l:List Str,(∀ w∈l,c∉w)→c∉Lib.join l sep:=by
  intro l
  cases l with
  | nil => intro _; simp [Lib.join_nil]
  | cons a l =>
    intro hl hm
    rw [Lib.join_cons] at hm
    rcases List.mem_append.1 hm with hm | hm
    · exact hl a (by simp) hm
    · simp only [Lib.joinTail,List.mem_flatten,List.mem_map] at hm
      obtain ⟨_,⟨x,hx,rfl⟩,hm⟩:=hm
      rcases List.mem_append.1 hm with hm | hm
      · exact hs hm
      · exact hl x (by simp [hx]) hm
theorem line_no {y:Stp} (h:stpB y=true):(10:UInt8)∉Lib.join (wordsS y) [32]:=by
  refine join_no (by decide) _ ?_
  obtain ⟨c,chk,cr,ms⟩:=y
  have num:∀ v:Int,(10:UInt8)∉Lib.itoa v:=fun v => itoa_no10
  cases cr with
  | true =>
    intro w hw
    simp only [wordsS,if_true,List.mem_append,List.mem_singleton,numW,List.mem_map] at hw
    rcases hw with rfl | ⟨x,_,rfl⟩
    · decide
    · exact num x
  | false =>
  cases chk with
  | true => intro w hw; simp [wordsS] at hw; subst hw; decide
  | false =>
  have hcm:lineCmd c=true:=by simp [stpB] at h; exact h.1
  have hw0:wordsOk c=true:=by simp [lineCmd] at hcm; exact hcm.2
  intro w hw
  simp only [wordsS,Bool.false_eq_true,if_false,wordsL] at hw
  unfold wordsOk at hw0
  by_cases k1:c.kind=1
  · rw [if_pos k1] at hw hw0
    simp only [List.mem_append,List.mem_cons,List.not_mem_nil,or_false,List.mem_map] at hw
    rcases hw with (rfl | rfl) | ⟨t,_,rfl⟩
    · decide
    · exact name_no10 hw0
    · refine join_no (by decide) _ fun w hw => ?_
      obtain ⟨x,_,rfl⟩:=List.mem_map.1 hw
      exact num x
  rw [if_neg k1] at hw hw0
  by_cases k2:c.kind=2
  · rw [if_pos k2] at hw hw0
    simp only [Bool.and_eq_true] at hw0
    simp only [List.mem_cons,List.not_mem_nil,or_false] at hw
    rcases hw with rfl | rfl | rfl
    · decide
    · exact name_no10 hw0.1
    · exact name_no10 hw0.2
  rw [if_neg k2] at hw hw0
  by_cases k5:c.kind=5
  · rw [if_pos k5] at hw0
    rw [if_neg (by omega),if_neg (by omega),if_pos k5] at hw
    split at hw
    · simp only [List.mem_cons,List.not_mem_nil,or_false] at hw
      rcases hw with rfl | rfl
      · decide
      · exact num _
    · rename_i hx
      simp only [hx,decide_false,Bool.false_or] at hw0
      simp only [List.mem_cons,List.not_mem_nil,or_false] at hw
      rcases hw with rfl | rfl | rfl
      · decide
      · exact num _
      · exact name_no10 hw0
  rw [if_neg k5] at hw0
  by_cases k79:c.kind=7∨c.kind=9
  · rw [if_pos k79] at hw0
    rcases k79 with k | k<;>simp [k] at hw<;>rcases hw with rfl | rfl<;>first | decide | exact name_no10 hw0
  · repeat' split at hw
    all_goals (simp only [List.mem_cons,List.not_mem_nil,or_false] at hw)
    all_goals (first | (rcases hw with rfl | rfl) | (subst hw))
    all_goals first | decide | exact num _ | (exfalso; omega)
/-! Back. -/
theorem planF_ok:∀ (f:Nat) (s:Str) (acc:List Stp) (size:Int) (q:Pln) (k:Int),s.length≤f→(∀ x∈acc,stpB x=true)→acc.length≤200→planF f s acc size=(q,0,k)→k=0∧q.size=size∧q.steps.length≤200∧(∀ x∈q.steps,stpB x=true)∧(acc.map lineS).flatten++s=(q.steps.map lineS).flatten
  | 0,s,acc,size,q,k,hs,ha,hal,h => by
    have:s=[]:=by cases s; rfl; simp at hs
    subst this
    simp only [planF,Prod.mk.injEq] at h; obtain ⟨rfl,_,rfl⟩:=h
    exact ⟨rfl,rfl,hal,ha,by simp⟩
  | f+1,s,acc,size,q,k,hs,ha,hal,h => by
    rw [planF] at h
    by_cases c0:s=[]
    · rw [if_pos c0] at h
      simp only [Prod.mk.injEq] at h; obtain ⟨rfl,_,rfl⟩:=h
      exact ⟨rfl,rfl,hal,ha,by simp [c0]⟩
    rw [if_neg c0] at h
    split at h
    · rename_i c
      obtain ⟨c1,c2,c3⟩:=c
      have hlt:=cut_len 10 s c1
      have hl:=(parse_iff (cutC 10 s).1 (parseS (cutC 10 s).1).1).1 (by rw [← c2])
      obtain ⟨r1,r2,r3,r4,r5⟩:=planF_ok f _ _ size q k (by omega) (fun x hx => by
        rcases List.mem_append.1 hx with hx | hx
        · exact ha x hx
        · simp only [List.mem_singleton] at hx; subst hx; exact hl.1) (by simp; omega) h
      refine ⟨r1,r2,r3,r4, ?_⟩
      rw [← r5]
      conv => lhs; rw [(cut_back 10 s c1).1]
      simp [lineS,lineW,hl.2]
    · simp at h
theorem plan_back {s:Str} {q:Pln} {k:Int} (h:parsePl s=(q,0,k)):k=0∧planB q=true∧planT q=s:=by
  unfold parsePl at h
  split at h
  · rename_i c
    obtain ⟨c1,c2,c3⟩:=c
    have hlt:=cut_len 10 s c1
    rw [planB_size,decide_eq_true_eq] at c3
    obtain ⟨r1,r2,r3,r4,r5⟩:=planF_ok _ _ [] _ q k (by omega) (by simp) (by simp) h
    refine ⟨r1, ?_, ?_⟩
    · simp only [planB,r2,Bool.and_eq_true,decide_eq_true_eq,List.all_eq_true]
      exact ⟨⟨c3,r3⟩,r4⟩
    · have hn:=numS_back (s:=(cutC 32 (cutC 10 s).1).2.1) (by omega)
      have hc2:(cutC 32 (cutC 10 s).1).2.2=true:=by
        cases hh:(cutC 32 (cutC 10 s).1).2.2 with
        | true => rfl
        | false =>
          have:=(cut_none 32 _ hh).2
          rw [this] at c3
          have e:numS []=-1:=by decide
          omega
      have h1:=(cut_back 32 _ hc2).1
      rw [c2] at h1
      have h0:=(cut_back 10 s c1).1
      rw [planT,← r5,r2,sizeW,lineW,hn]
      conv => rhs; rw [h0,h1]
      simp [Lib.join_cons,Lib.joinTail]
  · simp at h
theorem planF_of:∀ (l:List Stp) (f:Nat) (acc:List Stp) (size:Int),((l.map lineS).flatten).length≤f→(∀ x∈l,stpB x=true)→acc.length+l.length≤200→planF f (l.map lineS).flatten acc size=(⟨size,acc++l⟩,0,0)
  | [],f,acc,size,_,_,_ => by
    cases f<;>simp [planF]
  | x::l,f,acc,size,hf,hx,hl => by
    have hne:((x::l).map lineS).flatten≠[]:=by simp [lineS,lineW]
    have hs:((x::l).map lineS).flatten=Lib.join (wordsS x) [32]++10::(l.map lineS).flatten:=by simp [lineS,lineW]
    cases f with
    | zero => rw [hs] at hf; simp at hf
    | succ f =>
      have hno:(10:UInt8)∉Lib.join (wordsS x) [32]:=line_no (hx x (by simp))
      have hc:=cut_word 10 (l.map lineS).flatten _ hno
      have hp:=(parse_iff _ x).2 ⟨hx x (by simp),rfl⟩
      rw [planF,if_neg hne,hs,hc]
      simp only [hp]
      rw [if_pos ⟨trivial,trivial,by simp at hl; omega⟩,planF_of l f (acc++[x]) size (by rw [hs,List.length_append,List.length_cons] at hf; omega) (fun y hy => hx y (by simp [hy])) (by simp at hl ⊢; omega)]
      simp
theorem plan_of {p:Pln} (h:planB p=true):parsePl (planT p)=(p,0,0):=by
  simp only [planB,Bool.and_eq_true,decide_eq_true_eq,List.all_eq_true] at h
  obtain ⟨⟨h1,h2⟩,h3⟩:=h
  have hn:=numS_of p.size.toNat (by omega)
  rw [Int.toNat_of_nonneg (by omega)] at hn
  have hs:planT p=(wSize++32::Lib.itoa p.size)++10::(p.steps.map lineS).flatten:=by simp [planT,sizeW,lineW,Lib.join_cons,Lib.joinTail]
  have hno:(10:UInt8)∉wSize++32::Lib.itoa p.size:=by
    intro hm
    rcases List.mem_append.1 hm with hm | hm
    · revert hm; decide
    · rcases List.mem_cons.1 hm with hm | hm
      · revert hm; decide
      · exact itoa_no10 hm
  have hc:=cut_word 10 (p.steps.map lineS).flatten _ hno
  have hc2:=cut_word 32 (Lib.itoa p.size) wSize (by decide)
  unfold parsePl
  rw [hs,hc]
  simp only [hc2,hn]
  rw [if_pos ⟨trivial,trivial,by rw [planB_size]; exact decide_eq_true h1⟩,planF_of p.steps _ [] p.size (by simp only [List.length_append,List.length_cons]; omega) h3 (by simpa using h2)]
  rfl
theorem plan_err {s:Str} {q:Pln} {e k:Int} (h:parsePl s=(q,e,k)) (he:e≠0):q=zeroP:=by
  have hF:∀ (f:Nat) (s:Str) (acc:List Stp) (size:Int) (q:Pln) (e k:Int),planF f s acc size=(q,e,k)→e≠0→q=zeroP:=by
    intro f
    induction f with
    | zero => intro s acc size q e k h he; simp only [planF,Prod.mk.injEq] at h; exact absurd h.2.1.symm he
    | succ f ih =>
      intro s acc size q e k h he
      rw [planF] at h
      split at h
      · simp only [Prod.mk.injEq] at h; exact absurd h.2.1.symm he
      · split at h
        · exact ih _ _ _ _ _ _ h he
        · simp only [Prod.mk.injEq] at h; exact h.1.symm
  unfold parsePl at h
  split at h
  · exact hF _ _ _ _ _ _ _ h he
  · simp only [Prod.mk.injEq] at h; exact h.1.symm
section
theorem cutC_le (c:UInt8) (s:Str):(cutC c s).1.length≤s.length∧(cutC c s).2.1.length≤s.length:=by
  rcases index_c c s with ⟨h1,h2,h3,h4⟩ | ⟨i,h1,h2,h3,h4,h5⟩
  · rw [h3,h4]; simp
  · rw [h4,h5]; simp; omega
theorem p_cutline (H:Hp) (bn bt:Nat) (k:Int) (s:Str) (h1:bn < H.n) (h2:bt < H.n) (hne:bn≠bt) (e1:H.m bn=some (.arr 1 [.int .i64 k])) (e2:H.m bt=some (.arr 1 [.str s])) (hl:s.length≤1000000000) (hk:0≤k∧k≤4611686018427387904) :
    ACall Tryz.prog 11 [.ptr bn 0 0,.ptr bt 0 0] H [bn,bt] (.tup [.str (cutC 10 s).1,.bool (cutC 10 s).2.2]) [(bn,some (.arr 1 [.int .i64 (k+1)])),(bt,some (.arr 1 [.str (cutC 10 s).2.1]))] 0:=by
  refine ena11 (by simp) (by simp [lowL,V.low,h1,h2]) (fun id hid => ?_) (by simp) ?_
  · simp at hid
    rcases hid with rfl | rfl
    · exact ⟨h1,fun o ho => by rw [e1] at ho; simp at ho; subst ho; exact lowL_closed _ (by simp [closedL,V.closed])⟩
    · exact ⟨h2,fun o ho => by rw [e2] at ho; simp at ho; subst ho; exact lowL_closed _ (by simp [closedL,V.closed])⟩
  have q1:only [bn,bt] H.m bn=some (.arr 1 [.int .i64 k]):=by simp [only,e1]
  have q2:only [bn,bt] H.m bt=some (.arr 1 [.str s]):=by simp [only,e2]
  have hne':bt≠bn:=fun h => hne h.symm
  simp (maxSteps:=1000000) (disch:=omega) only [rg,gD,simprocAttr,c11,q1,q2]
  refine ⟨_,p_cut s 10 (by omega), ?_⟩
  simp (maxSteps:=1000000) (disch:=omega) only [rg,gD,simprocAttr,q2]
  exact fin_A (l:=[.str (cutC 10 s).1,.bool (cutC 10 s).2.2]) rfl (.inl rfl) (by simp) (fun id => .inr (by by_cases h:id=bn<;>by_cases h':id=bt<;>simp [appd,upd,h,h',q1,q2]))
theorem p_refuse (H:Hp) (bn:Nat) (k:Int) (h1:bn < H.n) (e1:H.m bn=some (.arr 1 [.int .i64 k])) :
    ACall Tryz.prog 13 [.ptr bn 0 0] H [bn] (.tup [plnV zeroP,.int .i64 250,.int .i64 k]) [] 1:=by
  refine ena13 (by simp) (by simp [lowL,V.low,h1]) (fun id hid => ?_) (by simp) ?_
  · simp at hid; subst hid
    exact ⟨h1,fun o ho => by rw [e1] at ho; simp at ho; subst ho; exact lowL_closed _ (by simp [closedL,V.closed])⟩
  have q1:only [bn] H.m bn=some (.arr 1 [.int .i64 k]):=by simp [only,e1]
  have hne:¬ H.n=bn:=by omega
  simp (maxSteps:=1000000) (disch:=omega) only [rg,gD,simprocAttr,c13,q1]
  refine ⟨by simp [compat,disj,nthL,hne], ?_⟩
  refine fin_A (l:=[.agg [.int .i64 0,.fsl .nil 11 []],.int .i64 250,.int .i64 k]) (by simp [resE,find,upd,loadO,getC,r13]) (.inr (.inr rfl)) (by simp) (fun j => ?_)
  by_cases h:j=H.n
  · left; simp [appd,upd,h,only,hne]
  · right; simp [appd,upd,h]
theorem planF_fuel:∀ (n f f':Nat) (s:Str) (acc:List Stp) (z:Int),s.length≤n→s.length≤f→s.length≤f'→planF f s acc z=planF f' s acc z:=by
  intro n
  induction n with
  | zero =>
    intro f f' s acc z h _ _
    have:s=[]:=List.eq_nil_of_length_eq_zero (by omega)
    subst this
    cases f<;>cases f'<;>simp [planF]
  | succ n ih =>
    intro f f' s acc z h h1 h2
    by_cases c0:s=[]
    · subst c0; cases f<;>cases f'<;>simp [planF]
    have hp:=List.length_pos_iff.2 c0
    obtain ⟨f,rfl⟩:∃ g,f=g+1:=⟨f - 1,by omega⟩
    obtain ⟨f',rfl⟩:∃ g,f'=g+1:=⟨f' - 1,by omega⟩
    rw [planF,planF,if_neg c0,if_neg c0]
    split
    · rename_i c
      have:=cut_len 10 s c.1
      exact ih _ _ _ _ _ (by omega) (by omega) (by omega)
    · rfl
theorem planF_step {s:Str} {acc:List Stp} {z:Int} (h:¬ s=[]):planF s.length s acc z=if (cutC 10 s).2.2=true∧(parseS (cutC 10 s).1).2=true∧acc.length < 200 then planF (cutC 10 s).2.1.length (cutC 10 s).2.1 (acc++[(parseS (cutC 10 s).1).1]) z else (zeroP,250,acc.length+2):=by
  have hp:=List.length_pos_iff.2 h
  obtain ⟨f,hf⟩:∃ g,s.length=g+1:=⟨s.length - 1,by omega⟩
  conv => lhs; rw [hf,planF,if_neg h]
  split
  · rename_i c
    have:=cut_len 10 s c.1
    exact planF_fuel f _ _ _ _ _ (by omega) (by omega) (by omega)
  · rfl
theorem Gro.len0 {lo n:Nat} {m:Hm} {sz:Nat} {v:V} {l:List V} (h:Gro lo n m sz v l):lenO false (some v)=okc True (.int .i64 (l.length:Int)):=by
  rcases h with ⟨st,_,rfl,rfl⟩ | ⟨id,_,_,rfl,_⟩<;>rfl
set_option maxHeartbeats 2000000 in
theorem p_plan (s:Str) (hl:s.length≤1000000000):PCall Tryz.prog 5 [.str s] (.tup [plnV (parsePl s).1,.int .i64 (parsePl s).2.1,.int .i64 (parsePl s).2.2]):=by
  refine en5 (by simp) (by simp [closedL,V.closed]) ?_
  obtain ⟨b1,b2⟩:=cutC_le 10 s
  obtain ⟨b3,b4⟩:=cutC_le 32 (cutC 10 s).1
  simp (maxSteps:=1000000) (disch:=omega) only [rg,gD,simprocAttr,c5]
  refine ⟨_,_,_,_,p_cutline _ 2 0 0 s (by simp) (by simp) (by omega) (by simp (disch:=omega) only [upd_eq,upd_ne,wo_0,wo_1,wo_2]) (by simp (disch:=omega) only [upd_eq,upd_ne,wo_0,wo_1,wo_2]) hl (by omega), ?_⟩
  simp (maxSteps:=1000000) (disch:=omega) only [rg,gD,simprocAttr]
  refine ⟨_,p_cut _ 32 (by omega), ?_⟩
  simp (maxSteps:=1000000) (disch:=omega) only [rg,gD,simprocAttr]
  refine ⟨_,p_number _ (by omega), ?_⟩
  simp (maxSteps:=1000000) (disch:=omega) only [rg,gD,simprocAttr]
  have hpl:parsePl s=if (cutC 10 s).2.2=true∧(cutC 32 (cutC 10 s).1).1=wSize∧planB ⟨numS (cutC 32 (cutC 10 s).1).2.1,[]⟩=true then planF s.length (cutC 10 s).2.1 [] (numS (cutC 32 (cutC 10 s).1).2.1) else (zeroP,250,1):=rfl
  have hp0:=p_right ⟨numS (cutC 32 (cutC 10 s).1).2.1,[]⟩ (by simp)
  unfold plnV at hp0
  generalize numS (cutC 32 (cutC 10 s).1).2.1=sz at hpl hp0
  generalize (cutC 32 (cutC 10 s).1).1=w0 at hpl
  generalize (cutC 10 s).2.2=ok at hpl
  have hpl2:(cutC 10 s).2.1.length≤s.length:=b2
  refine x_frz0 ?_
  cases ok with
  | false =>
    rw [if_neg (by simp)] at hpl
    simp (maxSteps:=1000000) (disch:=omega) only [rg,gD,simprocAttr]
    refine ⟨_,_,_,_,p_refuse _ 2 1 (by simp) (by simp (disch:=omega) only [upd_eq,upd_ne,wo_0,wo_1,wo_2]), ?_⟩
    simp (maxSteps:=1000000) (disch:=omega) only [rg,gD,simprocAttr,plnV,zeroP]
    refine x_frz0 ?_
    simp (maxSteps:=1000000) (disch:=omega) only [rg,gD,simprocAttr]
    (refine fin_x rfl ?_ ?_<;>simp [pack,lo,loL,V.closed,closedL,mv_closed,hpl,plnV,zeroP,mv])
  | true =>
  by_cases hw:w0=wSize
  case neg =>
    rw [if_neg (by simp [hw])] at hpl
    simp (maxSteps:=1000000) (disch:=omega) only [rg,gD,simprocAttr,show ¬ w0=[115,105,122,101] from hw]
    refine ⟨_,_,_,_,p_refuse _ 2 1 (by simp) (by simp (disch:=omega) only [upd_eq,upd_ne,wo_0,wo_1,wo_2]), ?_⟩
    simp (maxSteps:=1000000) (disch:=omega) only [rg,gD,simprocAttr,plnV,zeroP]
    refine x_frz0 ?_
    simp (maxSteps:=1000000) (disch:=omega) only [rg,gD,simprocAttr]
    (refine fin_x rfl ?_ ?_<;>simp [pack,lo,loL,V.closed,closedL,mv_closed,hpl,plnV,zeroP,mv])
  subst hw
  simp (maxSteps:=1000000) (disch:=omega) only [rg,gD,simprocAttr,wSize]
  refine ⟨_,PCall.of_eq hp0 (by simp [loL,lo,mv]), ?_⟩
  cases hz:planB ⟨sz,[]⟩ with
  | false =>
    rw [if_neg (by simp [hz])] at hpl
    simp (maxSteps:=1000000) (disch:=omega) only [rg,gD,simprocAttr]
    refine ⟨_,_,_,_,p_refuse _ 2 1 (by simp) (by simp (disch:=omega) only [upd_eq,upd_ne,wo_0,wo_1,wo_2]), ?_⟩
    simp (maxSteps:=1000000) (disch:=omega) only [rg,gD,simprocAttr,plnV,zeroP]
    refine x_frz0 ?_
    simp (maxSteps:=1000000) (disch:=omega) only [rg,gD,simprocAttr]
    (refine fin_x rfl ?_ ?_<;>simp [pack,lo,loL,V.closed,closedL,mv_closed,hpl,plnV,zeroP,mv])
  | true =>
  rw [if_pos ⟨rfl,rfl,hz⟩,planF_fuel s.length _ (cutC 10 s).2.1.length _ _ _ b2 b2 (Nat.le_refl _)] at hpl
  simp (maxSteps:=1000000) (disch:=omega) only [rg,gD,simprocAttr]
  generalize (cutC 10 s).2.1=rem0 at hpl hpl2
  refine x_it rem0.length (fun i σ H => ∃ rem acc v k tl,4≤H.n∧H.m 0=some (.arr 1 [.str rem])∧H.m 1=some (.arr 2 [.agg [.int .i64 0,.fsl .nil 11 []]])∧H.m 2=some (.arr 1 [.int .i64 k])∧H.m 3=some (.arr 2 [.agg [.int .i64 sz,v]])∧Gro 4 H.n H.m 11 v (mv stpV acc)∧k=i+1∧acc.length=i∧i≤200∧rem.length+i≤rem0.length∧parsePl s=planF rem.length rem acc sz∧σ=[(1,.ptr 0 0 0),(2,.ptr 1 0 0),(6,.fn 11 [] [.ptr 2 0 0,.ptr 0 0 0]),(7,.fn 13 [] [.ptr 2 0 0]),(13,.ptr 3 0 0)]++tl) ⟨rem0,[],_,1,_,by simp,(by simp (disch:=omega) only [upd_eq,upd_ne,wo_0,wo_1,wo_2]),(by simp (disch:=omega) only [upd_eq,upd_ne,wo_0,wo_1,wo_2]),(by simp (disch:=omega) only [upd_eq,upd_ne,wo_0,wo_1,wo_2]),(by simp (disch:=omega) only [upd_eq,upd_ne,wo_0,wo_1,wo_2]),Gro.nil,by simp,rfl,by omega,by omega,hpl,rfl⟩ ?_
  clear hpl
  rintro T i σ ⟨n,m⟩ hi ⟨rem,acc,v,k,tl,hn4,e0,e1,e2,e3,hG,hk,hal,hi2,hrl,hpl,rfl⟩ hN hX hR
  simp only [List.cons_append,List.nil_append] at hn4 e0 e1 e2 e3 hG ⊢
  simp (maxSteps:=1000000) (disch:=omega) only [rg,gD,simprocAttr,e0]
  refine ⟨fun hlt => ?_,fun hlt => ?_⟩
  · have hrp:=List.length_pos_iff.2 (show ¬ rem=[] from hlt)
    rw [planF_step hlt] at hpl
    obtain ⟨d1,d2⟩:=cutC_le 10 rem
    refine ⟨_,_,_,_,p_cutline _ 2 0 k rem (by show 2 < n; omega) (by show 0 < n; omega) (by omega) (by simp (disch:=omega) only [upd_eq,upd_ne,wo_0,wo_1,wo_2,e2]) (by simp (disch:=omega) only [upd_eq,upd_ne,wo_0,wo_1,wo_2,e0]) (by omega) (by omega), ?_⟩
    simp (maxSteps:=1000000) (disch:=omega) only [rg,gD,simprocAttr]
    refine ⟨_,p_parse _ (by omega), ?_⟩
    have e5:m 3=some (.arr 2 [.agg [.int .i64 sz,v]]):=e3
    have hc:=hG.cell
    have hll:=hG.len0
    have hn3:n≠0∧n≠1∧n≠2∧n≠3:=by omega
    rcases hps:parseS (cutC 10 rem).1 with ⟨y,par⟩
    simp only [hps] at hpl
    have hst:(cutC 10 rem).2.2=true→(cutC 10 rem).2.1.length < rem.length:=fun h => (cut_len 10 rem h).1
    generalize (cutC 10 rem).2.2=okl at hpl hst
    cases okl with
    | false =>
      rw [if_neg (by simp)] at hpl
      simp (maxSteps:=1000000) (disch:=omega) only [rg,gD,simprocAttr,stpV,tasksV,hps]
      refine ⟨_,_,_,_,p_refuse _ 2 (k+1) (by show 2 < n+1; omega) (by simp (disch:=omega) only [upd_eq,upd_ne,wo_0,wo_1,wo_2,e2]), ?_⟩
      simp (maxSteps:=1000000) (disch:=omega) only [rg,gD,simprocAttr,plnV,zeroP,e1]
      refine x_frz0 ?_
      simp (maxSteps:=1000000) (disch:=omega) only [rg,gD,simprocAttr]
      refine hR _ _ ?_
      simp (maxSteps:=1000000) (disch:=omega) only [rg,gD,simprocAttr]
      (refine fin_x rfl ?_ ?_<;>simp [pack,lo,loL,V.closed,closedL,mv_closed,hpl,plnV,zeroP,mv,show (acc.length:Int)+2=k+1 by omega])
    | true =>
    cases par with
    | false =>
      rw [if_neg (by simp)] at hpl
      simp (maxSteps:=1000000) (disch:=omega) only [rg,gD,simprocAttr,stpV,tasksV,hps]
      refine ⟨_,_,_,_,p_refuse _ 2 (k+1) (by show 2 < n+1; omega) (by simp (disch:=omega) only [upd_eq,upd_ne,wo_0,wo_1,wo_2,e2]), ?_⟩
      simp (maxSteps:=1000000) (disch:=omega) only [rg,gD,simprocAttr,plnV,zeroP,e1]
      refine x_frz0 ?_
      simp (maxSteps:=1000000) (disch:=omega) only [rg,gD,simprocAttr]
      refine hR _ _ ?_
      simp (maxSteps:=1000000) (disch:=omega) only [rg,gD,simprocAttr]
      (refine fin_x rfl ?_ ?_<;>simp [pack,lo,loL,V.closed,closedL,mv_closed,hpl,plnV,zeroP,mv,show (acc.length:Int)+2=k+1 by omega])
    | true =>
    by_cases h200:acc.length < 200
    case neg =>
      rw [if_neg (by simp [h200])] at hpl
      have h2':(200:Int)≤acc.length:=by omega
      simp (maxSteps:=1000000) (disch:=omega) only [rg,gD,simprocAttr,stpV,tasksV,hps,e3,hc,hll,mv_len,h2']
      refine ⟨_,_,_,_,p_refuse _ 2 (k+1) (by show 2 < n+1; omega) (by simp (disch:=omega) only [upd_eq,upd_ne,wo_0,wo_1,wo_2,e2]), ?_⟩
      simp (maxSteps:=1000000) (disch:=omega) only [rg,gD,simprocAttr,plnV,zeroP,e1]
      refine x_frz0 ?_
      simp (maxSteps:=1000000) (disch:=omega) only [rg,gD,simprocAttr]
      refine hR _ _ ?_
      simp (maxSteps:=1000000) (disch:=omega) only [rg,gD,simprocAttr]
      (refine fin_x rfl ?_ ?_<;>simp [pack,lo,loL,V.closed,closedL,mv_closed,hpl,plnV,zeroP,mv,show (acc.length:Int)+2=k+1 by omega])
    rw [if_pos ⟨rfl,rfl,h200⟩] at hpl
    have h2':¬ (200:Int)≤acc.length:=by omega
    simp (maxSteps:=1000000) (disch:=omega) only [rg,gD,simprocAttr,stpV,tasksV,hps,e3,hc,hll,mv_len,h2']
    refine app_gro (hG.keep (by simp only []; omega) (fun id h1 h2 => by simp (disch:=omega) only [upd_ne])) (by show 4≤n+1; omega) (ys:=[stpV y]) rfl (by simp) (by rw [mv_len]; simp; omega) fun v' fp ds hG' hk1 _ => ?_
    have k0:=hk1 0 (by omega)
    have k1:=hk1 1 (by omega)
    have k2:=hk1 2 (by omega)
    have k3:=hk1 3 (by omega)
    simp (disch:=omega) only [upd_eq,upd_ne] at k0 k1 k2 k3
    rw [e1] at k1
    rw [e3] at k3
    rw [show mv stpV acc++[stpV y]=mv stpV (acc++[y]) from mv_app1] at hG'
    have hc':=hG'.cell
    simp only at hG'
    simp (maxSteps:=1000000) (disch:=omega) only [rg,gD,simprocAttr,k3,hc']
    refine hN _ _ (by omega) ?_
    have:=hst rfl
    exact ⟨(cutC 10 rem).2.1,acc++[y],v',k+1,[],by show 4≤n+1+1; omega,(by simp (disch:=omega) only [upd_eq,upd_ne,wo_0,wo_1,wo_2,k0]),(by simp (disch:=omega) only [upd_eq,upd_ne,wo_0,wo_1,wo_2,k1]),(by simp (disch:=omega) only [upd_eq,upd_ne,wo_0,wo_1,wo_2,k2]),(by simp (disch:=omega) only [upd_eq,upd_ne,wo_0,wo_1,wo_2]),by exact hG'.keep (Nat.le_refl _) (fun id h1 h2 => by simp (disch:=omega) only [upd_ne]),by omega,by simp; omega,by omega,by omega,hpl,rfl⟩
  · have hr0:rem=[]:=by simpa using hlt
    subst hr0
    rw [show planF ([]:Str).length [] acc sz=(⟨sz,acc⟩,0,0) from rfl] at hpl
    refine hX _ _ _ ?_
    simp (maxSteps:=1000000) (disch:=omega) only [rg,gD,simprocAttr]
    obtain ⟨fz,st,f1,f2,f3⟩:=hG.frz (mv_closed stpV_closed)
    have d1:=frl_cl (fz:=fz) (ids:=[]) e1 (by simp [closedL,V.closed]) (fun h => by have:=f1 _ h; omega) (by simp)
    have d3:=frl_get (fz:=fz) (ids:=[]) e3 (fun h => by have:=f1 _ h; omega) (by simp)
    have k3:frzV fz m (.agg [.int .i64 sz,v])=.agg [.int .i64 sz,.fsl st 11 (mv stpV acc)]:=frzV_mid (pre:=[.int .i64 sz]) (post:=[]) f2 rfl rfl
    rw [List.map_cons,List.map_nil,k3] at d3
    refine x_frzL fz [] ?_
    simp only at d1 d3 ⊢
    generalize loH [] (frzH fz m)=m' at d1 d3
    simp (maxSteps:=1000000) (disch:=omega) only [rg,gD,simprocAttr,d1,d3]
    refine x_frz0 ?_
    simp (maxSteps:=1000000) (disch:=omega) only [rg,gD,simprocAttr]
    (refine fin_x rfl ?_ ?_<;>simp [pack,lo,loL,V.closed,closedL,mv_closed,hpl,plnV,mv_lo stpV_lo,mv_closed stpV_closed])
end
theorem Gro.snap {lo n:Nat} {m:Hm} {sz:Nat} {v:V} {l:List V} (h:Gro lo n m sz v l) (hc:closedL l=true):∃ st,∀ k,Ev.snap (k+1) m v=some (.fsl st sz l):=by
  rcases h with ⟨st,h0,rfl,rfl⟩ | ⟨id,h1,h1',rfl,h2⟩
  · exact ⟨st,fun k => snap_cl (n:=k+1) (v:=.fsl st sz []) rfl⟩
  · exact ⟨.loose,fun k => snap_sl (n:=k) (id:=id) (sz:=sz) (l:=l) h2 hc rfl⟩
theorem val_fold:∀ (s:Str) (a:Int),s.all digB=true→0≤a→0≤s.foldl (fun n (b:UInt8) => 10*n+((b.toNat:Int) - 48)) a∧s.foldl (fun n (b:UInt8) => 10*n+((b.toNat:Int) - 48)) a+1≤(a+1)*10 ^ s.length
  | [],a,_,h => by simp; omega
  | c::s,a,h,h0 => by
    rw [List.all_cons,Bool.and_eq_true] at h
    have hc:=h.1
    simp only [digB,decide_eq_true_eq] at hc
    obtain ⟨h1,h2⟩:=val_fold s (10*a+((c.toNat:Int) - 48)) h.2 (by omega)
    refine ⟨h1,Int.le_trans h2 ?_⟩
    rw [List.length_cons,Int.pow_succ,Int.mul_comm (10 ^ s.length) 10,← Int.mul_assoc]
    exact Int.mul_le_mul_of_nonneg_right (by omega) (Int.pow_nonneg (by omega))
theorem val_le (s:Str) (h:s.all digB=true):0≤valS s∧valS s < 10 ^ s.length:=by
  obtain ⟨h1,h2⟩:=val_fold s 0 h (by omega)
  exact ⟨h1,by simp only [valS]; omega⟩
theorem refN_le (s:Str):refN s≤9223372036854775807:=by
  rcases Classical.em (refN s < 0) with h | h
  · omega
  · unfold refN at h ⊢
    split
    · rename_i hh
      split
      · have:=(val_le s hh.2).2
        have h3:(10:Int) ^ s.length≤10 ^ 13:=by
          have:(10:Nat) ^ s.length≤10 ^ 13:=Nat.pow_le_pow_right (by omega) (by omega)
          exact_mod_cast this
        omega
      · omega
    · omega
theorem refN_ge (s:Str):-1≤refN s:=by
  unfold refN
  split
  · rename_i hh
    split
    · have:=(val_le s hh.2).1; omega
    · omega
  · omega
theorem refN_64 (s:Str):i64 (refN s):=⟨by have:=refN_ge s; omega,refN_le s⟩
theorem taskR_ok {w:Str} {t:Task} (h:taskR w=some t):t.needs.length≤w.length+1∧okTk t∧(∀ x∈t.needs,x≤9223372036854775807)∧t.tries≤9223372036854775807∧t.wait≤9223372036854775807∧t.lease≤9223372036854775807:=by
  unfold taskR at h
  have hb:∀ x∈(splitC 44 w).map refN,i64 x:=fun x hx => by obtain ⟨y,_,rfl⟩:=List.mem_map.1 hx; exact refN_64 y
  have hn:((splitC 44 w).map refN).length≤w.length+1:=by rw [List.length_map]; exact splitC_len 44 w
  generalize (splitC 44 w).map refN=l at *
  match l with
  | [] => simp [mkTask] at h
  | [_] => simp [mkTask] at h
  | [_,_] => simp [mkTask] at h
  | a::b::c::r =>
    simp only [mkTask,Option.some.injEq] at h; subst h
    have ha:=hb a (by simp); have hb':=hb b (by simp); have hc:=hb c (by simp)
    exact ⟨by simp at hn ⊢; omega,⟨fun x hx => hb x (by simp [hx]),ha,hb',hc⟩,fun x hx => (hb x (by simp [hx])).2,ha.2,hb'.2,hc.2⟩
theorem readR_ok (ws:List Str) (hl:ws.length≤1000000001) (hw:∀ w∈ws,w.length≤1000000000):okStp (readR ws).1∧i64 (readR ws).1.cmd.token∧i64 (readR ws).1.cmd.time∧(∀ t∈(readR ws).1.cmd.dag.tasks,okTk t)∧∀ x∈(readR ws).1.masks,i64 x:=by
  have hr:∀ w∈ws.tail,w.length≤1000000000:=fun w h => hw w (List.mem_of_mem_tail h)
  have hr2:∀ w∈ws.tail.tail,w.length≤1000000000:=fun w h => hr w (List.mem_of_mem_tail h)
  have l1:=ws.length_tail
  have l2:=ws.tail.length_tail
  have h0:=head_len hr
  have h1:=head_len hr2
  have n0:=refN_64 (ws.tail.headD [])
  have z:i64 0:=by unfold i64; omega
  have hz:∀ t∈zeroD.tasks,okTk t:=by simp [zeroD]
  by_cases c0:ws.headD []=wCrash
  · rw [readR,if_pos c0]
    exact ⟨⟨okC (by simp) (by simp) (by simp) (by omega) (by omega) zeroD_ok,by simp; omega⟩,z,z,hz,fun x hx => by obtain ⟨y,_,rfl⟩:=List.mem_map.1 hx; exact refN_64 y⟩
  by_cases c1:ws.headD []=wCheck
  · rw [readR,if_neg c0,if_pos c1]
    exact ⟨⟨okC (by simp) (by simp) (by simp) (by omega) (by omega) zeroD_ok,by simp⟩,z,z,hz,by simp⟩
  by_cases c2:ws.headD []=wGraph
  · rw [readR,if_neg c0,if_neg c1,if_pos c2]
    have hk:∀ t∈(takeT taskR ws.tail.tail).1,t.needs.length≤1000000001∧okTk t∧(∀ x∈t.needs,x≤9223372036854775807)∧t.tries≤9223372036854775807∧t.wait≤9223372036854775807∧t.lease≤9223372036854775807:=fun t ht => by
      refine takeT_ok (q:=fun t => t.needs.length≤1000000001∧okTk t∧(∀ x∈t.needs,x≤9223372036854775807)∧t.tries≤9223372036854775807∧t.wait≤9223372036854775807∧t.lease≤9223372036854775807) (fun w hw t ht => ?_) t ht
      obtain ⟨q1,q2⟩:=taskR_ok ht
      have:=hr2 w hw
      exact ⟨by omega,q2⟩
    have hlen:=takeT_len taskR ws.tail.tail
    exact ⟨⟨okC (by simp) (by simp) (by simp) (by omega) (by omega) ⟨by simp only; omega,fun t ht => ⟨(hk t ht).1,(hk t ht).2.2⟩⟩,by simp [mkS]⟩,z,z,fun t ht => (hk t ht).2.1,by simp [mkS]⟩
  by_cases c3:ws.headD []=wStart
  · rw [readR,if_neg c0,if_neg c1,if_neg c2,if_pos c3]
    exact ⟨⟨okC h0 h1 (by simp) (by omega) (by omega) zeroD_ok,by simp [mkS]⟩,z,z,hz,by simp [mkS]⟩
  by_cases c4:ws.headD []=wPoll
  · rw [readR,if_neg c0,if_neg c1,if_neg c2,if_neg c3,if_pos c4]
    exact ⟨⟨okC (by simp) (by simp) (by simp) (by omega) (by omega) zeroD_ok,by simp [mkS]⟩,z,z,hz,by simp [mkS]⟩
  by_cases c5:ws.headD []=wBeat
  · rw [readR,if_neg c0,if_neg c1,if_neg c2,if_neg c3,if_neg c4,if_pos c5]
    exact ⟨⟨okC (by simp) (by simp) (by simp) n0.2 (by omega) zeroD_ok,by simp [mkS]⟩,n0,z,hz,by simp [mkS]⟩
  by_cases c6:ws.headD []=wDone
  · rw [readR,if_neg c0,if_neg c1,if_neg c2,if_neg c3,if_neg c4,if_neg c5,if_pos c6]
    exact ⟨⟨okC (by simp) (by simp) h1 n0.2 (by omega) zeroD_ok,by simp [mkS]⟩,n0,z,hz,by simp [mkS]⟩
  by_cases c7:ws.headD []=wFail
  · rw [readR,if_neg c0,if_neg c1,if_neg c2,if_neg c3,if_neg c4,if_neg c5,if_neg c6,if_pos c7]
    exact ⟨⟨okC (by simp) (by simp) (by simp) n0.2 (by omega) zeroD_ok,by simp [mkS]⟩,n0,z,hz,by simp [mkS]⟩
  by_cases c8:ws.headD []=wCancel
  · rw [readR,if_neg c0,if_neg c1,if_neg c2,if_neg c3,if_neg c4,if_neg c5,if_neg c6,if_neg c7,if_pos c8]
    exact ⟨⟨okC h0 (by simp) (by simp) (by omega) (by omega) zeroD_ok,by simp [mkS]⟩,z,z,hz,by simp [mkS]⟩
  by_cases c9:ws.headD []=wTick
  · rw [readR,if_neg c0,if_neg c1,if_neg c2,if_neg c3,if_neg c4,if_neg c5,if_neg c6,if_neg c7,if_neg c8,if_pos c9]
    exact ⟨⟨okC (by simp) (by simp) (by simp) (by omega) n0.2 zeroD_ok,by simp [mkS]⟩,z,n0,hz,by simp [mkS]⟩
  by_cases c10:ws.headD []=wState
  · rw [readR,if_neg c0,if_neg c1,if_neg c2,if_neg c3,if_neg c4,if_neg c5,if_neg c6,if_neg c7,if_neg c8,if_neg c9,if_pos c10]
    exact ⟨⟨okC h0 (by simp) (by simp) (by omega) (by omega) zeroD_ok,by simp [mkS]⟩,z,z,hz,by simp [mkS]⟩
  by_cases c11:ws.headD []=wSync
  · rw [readR,if_neg c0,if_neg c1,if_neg c2,if_neg c3,if_neg c4,if_neg c5,if_neg c6,if_neg c7,if_neg c8,if_neg c9,if_neg c10,if_pos c11]
    exact ⟨⟨okC (by simp) (by simp) (by simp) (by omega) (by omega) zeroD_ok,by simp [mkS]⟩,z,z,hz,by simp [mkS]⟩
  · rw [readR,if_neg c0,if_neg c1,if_neg c2,if_neg c3,if_neg c4,if_neg c5,if_neg c6,if_neg c7,if_neg c8,if_neg c9,if_neg c10,if_neg c11]
    exact ⟨⟨okC (by simp) (by simp) (by simp) (by omega) (by omega) zeroD_ok,by simp [zeroS]⟩,z,z,hz,by simp [zeroS]⟩
section
theorem stp_ext {a b:Stp}:(a=b)↔(a.check=b.check∧a.crash=b.crash∧a.masks=b.masks∧a.cmd=b.cmd):=by
  obtain ⟨a1,a2,a3,a4⟩:=a; obtain ⟨b1,b2,b3,b4⟩:=b
  simp only [Stp.mk.injEq]
  constructor
  · rintro ⟨rfl,rfl,rfl,rfl⟩; exact ⟨rfl,rfl,rfl,rfl⟩
  · rintro ⟨rfl,rfl,rfl,rfl⟩; exact ⟨rfl,rfl,rfl,rfl⟩
instance:DecidableEq Stp:=fun a b => decidable_of_iff _ stp_ext.symm
instance:DecidableEq Pln:=fun a b => decidable_of_iff (a.size=b.size∧a.steps=b.steps) (by
  obtain ⟨a1,a2⟩:=a; obtain ⟨b1,b2⟩:=b; simp)
set_option maxHeartbeats 2000000 in
theorem r_likeP (a b:Pln) (ha:∀ s∈a.steps,okStp s) (hb:∀ s∈b.steps,okStp s) (hl:a.steps.length≤4611686018427387904):PCall Tryz.prog 8 [plnV a,plnV b] (.bool (decide (a=b))):=by
  refine en8 (by simp) (by simp [closedL,plnV_closed]) ?_
  by_cases c1:a.size=b.size
  case neg =>
    have e:¬ a=b:=fun h => c1 (by rw [h])
    simp (maxSteps:=1000000) (disch:=omega) only [rg,gD,simprocAttr,c8,plnV,mv_len,c1]
    (refine fin_x rfl ?_ ?_<;>simp [pack,lo,loL,V.closed,closedL,mv_closed,e])
  by_cases c2:(a.steps.length:Int)=b.steps.length
  case neg =>
    have e:¬ a=b:=fun h => c2 (by rw [h])
    simp (maxSteps:=1000000) (disch:=omega) only [rg,gD,simprocAttr,c8,plnV,mv_len,c1,c2]
    (refine fin_x rfl ?_ ?_<;>simp [pack,lo,loL,V.closed,closedL,mv_closed,e])
  simp (maxSteps:=1000000) (disch:=omega) only [rg,gD,simprocAttr,c8,plnV,mv_len,c1,c2]
  have c3:a.steps.length=b.steps.length:=by omega
  refine x_it a.steps.length (fun i σ H => 2≤H.n∧H.m 1=some (.arr 2 [.agg [.int .i64 b.size,.fsl .loose 11 (mv stpV b.steps)]])∧a.steps.take i=b.steps.take i∧σ=[(3,.ptr 1 0 0),(23,.fsl .loose 11 (mv stpV a.steps)),(24,.int .i64 a.steps.length),(25,.int .i64 i)]) ⟨by simp,(by simp (disch:=omega) only [upd_eq,upd_ne,wo_0,wo_1,wo_2]),rfl,by first | rfl | simp [c3]⟩ ?_
  rintro T i σ ⟨n,m⟩ hi ⟨hn2,e1,htk,rfl⟩ hN hX hR
  simp only at hn2 e1
  simp (maxSteps:=1000000) (disch:=omega) only [rg,gD,simprocAttr]
  refine ⟨fun hlt => ?_,fun hlt => ?_⟩
  · have i1:i < a.steps.length:=by omega
    have i2:i < b.steps.length:=by omega
    have hg1:(mv stpV a.steps)[i]?=some (stpV a.steps[i]):=mv_get i1
    have hg2:(mv stpV b.steps)[i]?=some (stpV b.steps[i]):=mv_get i2
    have no:¬ a.steps[i]=b.steps[i]→¬ a=b:=fun h he => h (by simp only [he])
    have ka:=ha _ (List.getElem_mem i1)
    have kb:=hb _ (List.getElem_mem i2)
    have sx:a.steps.take (i+1)=b.steps.take (i+1)↔a.steps[i]=b.steps[i]:=by
      rw [List.take_succ_eq_append_getElem i1,List.take_succ_eq_append_getElem i2,htk]
      exact ⟨fun h => by have:=List.append_cancel_left h; simpa using this,fun h => by rw [h]⟩
    generalize a.steps[i]=x at hg1 no ka sx
    generalize b.steps[i]=y at hg2 no kb sx
    have hn3:n≠0∧n≠1:=by omega
    have km:=fSame_ints x.masks y.masks ka.2 kb.2
    have kc:=like_cmd x.cmd y.cmd ⟨ka.1.2.2.2.1,ka.1.2.2.2.2.1⟩ ⟨kb.1.2.2.2.1,kb.1.2.2.2.2.1⟩
    unfold cmdV tasksV at kc
    simp (maxSteps:=1000000) (disch:=omega) only [rg,gD,simprocAttr,hg1,hg2,stpV,tasksV,e1]
    refine ⟨fun q1 => ⟨fun q2 => ?_,fun q2 => ?_⟩,fun q1 => ?_⟩
    rotate_left
    · refine hR _ _ ?_
      simp (maxSteps:=1000000) (disch:=omega) only [rg,gD,simprocAttr]
      (refine fin_x rfl ?_ ?_<;>simp [pack,lo,loL,V.closed,closedL,mv_closed,no (fun h => by rw [h] at q2; simp at q2)])
    · refine hR _ _ ?_
      simp (maxSteps:=1000000) (disch:=omega) only [rg,gD,simprocAttr]
      (refine fin_x rfl ?_ ?_<;>simp [pack,lo,loL,V.closed,closedL,mv_closed,no (fun h => by rw [h] at q1; simp at q1)])
    refine ⟨_,km, ?_⟩
    by_cases q3:x.masks=y.masks
    case neg =>
      simp (maxSteps:=1000000) (disch:=omega) only [rg,gD,simprocAttr,q3]
      refine hR _ _ ?_
      simp (maxSteps:=1000000) (disch:=omega) only [rg,gD,simprocAttr]
      (refine fin_x rfl ?_ ?_<;>simp [pack,lo,loL,V.closed,closedL,mv_closed,no (fun h => q3 (by rw [h]))])
    simp (maxSteps:=1000000) (disch:=omega) only [rg,gD,simprocAttr,q3]
    refine ⟨_,kc, ?_⟩
    by_cases q4:x.cmd=y.cmd
    case neg =>
      simp (maxSteps:=1000000) (disch:=omega) only [rg,gD,simprocAttr,q4]
      refine hR _ _ ?_
      simp (maxSteps:=1000000) (disch:=omega) only [rg,gD,simprocAttr]
      (refine fin_x rfl ?_ ?_<;>simp [pack,lo,loL,V.closed,closedL,mv_closed,no (fun h => q4 (by rw [h]))])
    simp (maxSteps:=1000000) (disch:=omega) only [rg,gD,simprocAttr,q4]
    refine hN _ _ i1 ⟨by show 2≤n+2; omega,(by simp (disch:=omega) only [upd_eq,upd_ne,wo_0,wo_1,wo_2,e1]),sx.2 (stp_ext.2 ⟨by simpa using q1,by simpa using q2,q3,q4⟩),rfl⟩
  · obtain rfl:i=a.steps.length:=by omega
    rw [List.take_length,c3,List.take_length] at htk
    have e:a=b:=by obtain ⟨a1,a2⟩:=a; obtain ⟨b1,b2⟩:=b; simp only at c1 htk; rw [c1,htk]
    refine hX _ _ _ ?_
    simp (maxSteps:=1000000) (disch:=omega) only [rg,gD,simprocAttr]
    refine x_frz0 ?_
    simp (maxSteps:=1000000) (disch:=omega) only [rg,gD,simprocAttr]
    (refine fin_x rfl ?_ ?_<;>simp [pack,lo,loL,V.closed,closedL,mv_closed,e])
end
section
open Go Go.RowKit
abbrev G0 (F:Nat→Option (List Value)):G:=⟨fun _ => none,F⟩
theorem RS.below {F:Nat→Option (List Value)} {w w':World} (h:RS (G0 F) (fun _ => none) w) (hb:Below w.heap.size w w'):RS (G0 F) (fun _ => none) w' :=
  ⟨fun b cs k => by
    obtain ⟨e,fr,h1⟩:=h.fro b cs k
    exact ⟨e,fr,by rw [hb.block b (h.fro_lt k)]; exact h1⟩,by simp,by simp,h.tab⟩
theorem ext_below {F F':Nat→Option (List Value)} {w w':World} (h:Ext (G0 F) (fun _ => none) w (G0 F') (fun _ => none) w'):Below w.heap.size w w' :=
  ⟨h.os,h.tape,h.output,h.size,fun k hk => h.old k hk (fun ⟨_,_,_,_,q,_⟩ => by cases q)⟩
theorem bel_le {A B:Nat} {a b:World} (h:Below B a b) (k:A≤B):Below A a b:=⟨h.os,h.tape,h.output,h.size,fun j hj => h.block j (by omega)⟩
theorem PCall.bool0 {P:Program} {f:Nat} {vs:List V} {b:Bool} (h:PCall P f vs (.bool b)) {F:Nat→Option (List Value)} {w:World} {xs:Array Value} (hs:RS (G0 F) (fun _ => none) w) (hx:RC (G0 F) vs xs.toList) :
    Calls P f xs w fun e w' => e=.returned (.bool b)∧Below w.heap.size w w':=by
  refine (h.2 _ _ _ _ hs hx).mono ?_
  rintro e w' ⟨x,F',rfl,hr,h1,h2⟩
  simp only [R] at hr; subst hr
  exact ⟨rfl,ext_below h2⟩
theorem PCall.str0 {P:Program} {f:Nat} {vs:List V} {s:Str} (h:PCall P f vs (.str s)) {F:Nat→Option (List Value)} {w:World} {xs:Array Value} (hs:RS (G0 F) (fun _ => none) w) (hx:RC (G0 F) vs xs.toList) :
    Calls P f xs w fun e w' => e=.returned (.string ⟨s.toArray⟩)∧Below w.heap.size w w':=by
  refine (h.2 _ _ _ _ hs hx).mono ?_
  rintro e w' ⟨x,F',rfl,hr,h1,h2⟩
  simp only [R] at hr; subst hr
  exact ⟨rfl,ext_below h2⟩
theorem line_two {F:Nat→Option (List Value)} {w:World} (hs:RS (G0 F) (fun _ => none) w) (a b:Str) (ha:a.length≤1000) (hb:b.length≤1000) (ty:TypeId) :
    Calls Tryz.prog 26 #[.slice (some ⟨w.heap.size,0,none⟩) 2 2] (w.alloc (.cells #[.string ⟨a.toArray⟩,.string ⟨b.toArray⟩] ty)) fun e w' => e=.returned (.string ⟨(lineW [a,b]).toArray⟩)∧Below (w.alloc (.cells #[.string ⟨a.toArray⟩,.string ⟨b.toArray⟩] ty)).heap.size (w.alloc (.cells #[.string ⟨a.toArray⟩,.string ⟨b.toArray⟩] ty)) w':=by
  obtain ⟨h1,_⟩:=hs.new_froze (w':=w.alloc (.cells #[.string ⟨a.toArray⟩,.string ⟨b.toArray⟩] ty)) ⟨rfl,rfl,rfl⟩ rfl
  refine (p_line .full [a,b] (by simp) (lineOk (by simp; omega) (by simp))).str0 h1 ?_
  simp only [RC,R]
  refine ⟨_,_,rfl,⟨some ⟨w.heap.size,0,none⟩,2,[.string ⟨a.toArray⟩,.string ⟨b.toArray⟩],rfl, ?_, ?_,by simp [vS,mv],by simp,by simp,by simp [vS,mv],.inr ⟨_,_,rfl,[],[],by simp [G.froze],rfl⟩⟩,rfl⟩
  · simp [vS,mv,RL,R,V.isEl,Value.cells]
  · simp [vS,mv,V.size]
theorem isB_below {T e:TypeId} {B b:Nat} {bs:List Value} {w w':World} (h:Lib.IsBuilder T e B b bs w) (k:Below w.heap.size w w'):Lib.IsBuilder T e B b bs w':=by
  have one:∀ p,Lib.BuilderAt T e B b p bs w→Lib.BuilderAt T e B b p bs w':=by
    rintro p ⟨h1,v,h2,h3,h4⟩
    have hb:=(Array.getElem?_eq_some_iff.1 h2).1
    refine ⟨h1,v,by rw [k.block _ hb]; exact h2,⟨h3.1, ?_⟩,h4⟩
    rcases h3.2 with h3 | ⟨g,cap,cur,q1,q2,q3,q4⟩
    · exact .inl h3
    · exact .inr ⟨g,cap,cur,q1,q2,by rw [k.block _ (Array.getElem?_eq_some_iff.1 q3).1]; exact q3,q4⟩
  rcases h with h | h
  · exact .inl (one _ h)
  · exact .inr (one _ h)
theorem lays_write:Lays.n166 Tryz.prog ren_join:={ lays_join with }
theorem lays_string:Lays.n169 Tryz.prog ren_join:={ lays_join with }
theorem eleven {α:Type} {l:List α} (h:l.length=11):∃ a b c d e f g i j k m,l=[a,b,c,d,e,f,g,i,j,k,m]:=by
  match l,h with
  | [a,b,c,d,e,f,g,i,j,k,m],_ => exact ⟨a,b,c,d,e,f,g,i,j,k,m,rfl⟩
theorem print_walk (p:Pln) (h:∀ s∈p.steps,okStp s) (hln:planB p=true→∀ s∈p.steps,okLn s) (F:Nat→Option (List Value)) (w:World) (x:Value) (hs:RS (G0 F) (fun _ => none) w) (hx:R (G0 F) (plnV p) x) :
    Calls Tryz.prog 9 #[x] w fun e w' => e=.returned (.tuple #[.string ⟨(printS p).1.toArray⟩,.int .i64 (printS p).2])∧Below w.heap.size w w':=by
  have hx0:=hx
  simp only [plnV,R] at hx
  obtain ⟨xs,rfl,hxs,_⟩:=hx
  simp only [RC,R] at hxs
  obtain ⟨y,ys,e1,rfl,z,zs,rfl,⟨a,cap,cells,rfl,k2,k3,k4,k5,k6,k7,k8⟩,rfl⟩:=hxs
  obtain rfl:xs=#[.int .i64 p.size,.slice a (mv stpV p.steps).length cap]:=by apply Array.ext'; simpa using e1
  rw [mv_len] at hx0 k4 k7 ⊢
  have b0:Below w.heap.size w (w.alloc (.cells #[.int .i64 p.size,.slice a p.steps.length cap] 24)):=(Below.refl _ w).alloc (Nat.le_refl _) _
  have hright:=(p_right p h).bool0 (hs.below b0) (xs:=#[.agg #[.int .i64 p.size,.slice a p.steps.length cap]]) (by simp only [RC]; exact ⟨_,_,rfl,hx0,rfl⟩)
  go_enter Tryz.func9,Tryz.ntmps9
  go_wp2_with (go_at_fn 10)
  refine hright.mono ?_
  rintro e w1 ⟨rfl,b1⟩
  cases hp:planB p with
  | false =>
    go_wp2
    go_ret2
    exact ⟨by simp [printS,hp],b0.trans (bel_le b1 b0.size)⟩
  | true =>
    have hbx:w1.heap[w.heap.size]?=some (.cells #[.int .i64 p.size,.slice a p.steps.length cap] 24 (0,0)):=by
      rw [b1.block _ (by simp)]; exact World.alloc_heap_new _ _
    have hlt:=(Array.getElem?_eq_some_iff.1 hbx).1
    have hb2:∀ o,(w1.alloc o).heap[w.heap.size]?=some (.cells #[.int .i64 p.size,.slice a p.steps.length cap] 24 (0,0)):=fun o => by rw [Lib.alloc_old w1 _ _ hlt]; exact hbx
    have c0:(w1.alloc (.cells #[.pointer none,.slice none 0 0] 62)).cell? ⟨w.heap.size,0,none⟩=some (.int .i64 p.size):=by rw [Lib.cell_of_heap (hb2 _)]; rfl
    have b01:Below w.heap.size w w1:=b0.trans (bel_le b1 b0.size)
    have b2:Below w.heap.size w (w1.alloc (.cells #[.pointer none,.slice none 0 0] 62)):=b01.alloc b01.size _
    have hsz:24≤p.size∧p.size≤200:=by simp [planB] at hp; omega
    have hsi:-9223372036854775808≤p.size∧p.size≤9223372036854775807:=by omega
    have hi:=(p_itoa p.size hsi).str0 (hs.below b2) (xs:=#[.int .i64 p.size]) (by simp [RC,R])
    go_wp2_with (go_at_fn 27)
    refine hi.mono ?_
    rintro e w3 ⟨rfl,b3⟩
    have b03:Below w.heap.size w w3:=b2.trans (bel_le b3 b2.size)
    have hln1:=line_two (hs.below b03) wSize (Lib.itoa p.size) (by simp [wSize]) (by have:=itoa_len hsi; omega) 9
    go_wp2_with (go_at_fn 26)
    refine hln1.mono ?_
    rintro e w4 ⟨rfl,b4⟩
    have h13:w1.heap.size+1≤w3.heap.size:=by have:=b3.size; simp at this; exact this
    have h34:w3.heap.size+1≤w4.heap.size:=by have:=b4.size; simp at this; exact this
    have i2:Lib.IsBuilder 62 5 w1.heap.size w1.heap.size [] (w1.alloc (.cells #[.pointer none,.slice none 0 0] 62)):=Lib.fresh_isBuilder 62 5 w1
    have b24:Below (w1.alloc (.cells #[.pointer none,.slice none 0 0] 62)).heap.size (w1.alloc (.cells #[.pointer none,.slice none 0 0] 62)) w4:=b3.trans ((Below.refl _ w3).alloc (by simpa using h13) _ |>.trans (bel_le b4 (by simp; omega)))
    have i4:Lib.IsBuilder 62 5 w1.heap.size w1.heap.size [] w4:=isB_below i2 b24
    have b04:Below w.heap.size w w4:=b2.trans (bel_le b24 b2.size)
    have hws:=Any.Builder_WriteString lays_write lays1_join w1.heap.size w1.heap.size [] ⟨(sizeW p.size).toArray⟩ w4 i4 (by simp [ByteArray.size,sizeW,lineW,Lib.join_cons,Lib.joinTail,wSize]; have:=itoa_len hsi; omega) (by omega)
    go_wp2_with (go_at_fn 25)
    refine hws.mono ?_
    rintro e w5 ⟨rfl,i5,b5⟩
    have hb5:w5.heap[w.heap.size]?=some (.cells #[.int .i64 p.size,.slice a p.steps.length cap] 24 (0,0)):=by
      rw [b5.block _ hlt,b24.block _ (by simp; omega)]; exact hb2 _
    have c1:w5.cell? ⟨w.heap.size,1,none⟩=some (.slice a p.steps.length cap):=by rw [Lib.cell_of_heap hb5]; rfl
    have b05:Below w.heap.size w w5:=b04.trans (bel_le b5 (by omega))
    have e5:Lib.strCells ⟨(lineW [wSize,Lib.itoa p.size]).toArray⟩=Lib.byteCells (sizeW p.size):=Lib.strCells_eq _
    go_wp2
    have i6:Lib.IsBuilder 62 5 w1.heap.size w1.heap.size (Lib.byteCells (sizeW p.size)) w5:=by
      have:=i5
      rw [List.nil_append] at this
      exact .inr this
    have hok:=hln hp
    have hn2:p.steps.length≤200:=by simp [planB] at hp; omega
    have hsl:(sizeW p.size).length≤100:=by simp [sizeW,lineW,Lib.join_cons,Lib.joinTail,wSize]; have:=itoa_len hsi; omega
    clear i5 hln1 hi hws hright i4 i2 c0 c1 hb2
    go_loopw [19] (fun n W => ∃ i:Nat,n=.int .i64 i∧i≤p.steps.length∧(∃ t:Str,t=sizeW p.size++((p.steps.take i).map lineS).flatten∧t.length≤100+300000*i∧Lib.IsBuilder 62 5 w1.heap.size w1.heap.size (Lib.byteCells t) W)∧Below w.heap.size w W∧w1.heap.size≤W.heap.size) (fun n _ => match n with | .int _ k => (p.steps.length - k).toNat | _ => 0)
    case atStart => exact ⟨0,rfl,by omega,⟨_,by simp,by omega,i6⟩,b05,by have:=b5.size; omega⟩
    case round =>
      obtain ⟨i,rfl,hi,⟨t,ht,htl,hB⟩,bW,hW⟩:=hrel
      by_cases hlt2:(i:Int) < p.steps.length
      · have i1:i < p.steps.length:=by omega
        obtain ⟨az,y,bs,hcl,haz,hy,_,_⟩:=RL.get k2 k3 (mv_get (f:=stpV) i1)
        obtain ⟨b,o,rfl,hF⟩:∃ b o,a=some ⟨b,o,none⟩∧FAt (G0 F) b o cells:=by
          rcases k8 with k8 | k8
          · simp only [mv,List.map_eq_nil_iff] at k8; rw [k8] at i1; simp at i1
          · exact k8
        rw [hcl] at hF
        have hF1:=hF.sub
        rw [haz] at hF1
        have hrs:=hs.below bW
        have hC:=hF1.cells hrs
        have hy0:=hy
        simp only [stpV,R] at hy
        obtain ⟨ys,rfl,hrc,_⟩:=hy
        simp only [tasksV,RC,R] at hrc
        obtain ⟨_,_,hxs,rfl,_,_,rfl,rfl,_,_,rfl,rfl,_,_,rfl,rfl,_,_,rfl,rfl,_,_,rfl,rfl,_,_,rfl,rfl,_,_,rfl,⟨a7,c7,l7,rfl,_⟩,_,_,rfl,rfl,_,_,rfl,rfl,_,_,rfl,⟨a9,c9,l9,rfl,_⟩,rfl⟩:=hrc
        obtain ⟨x0,x1,x2,x3,x4,x5,x6,x7,x8,x9,x10,hxx⟩:=eleven (l:=ys.toList) (by rw [hxs]; rfl)
        obtain rfl:ys=_:=by apply Array.ext'; exact hxs
        clear hxx
        simp only [Value.cells] at hC
        clear hxs hF1 hF hcl
        have f0:=hC.cell (j:=0) rfl
        have f1:=hC.cell (j:=1) rfl
        have f2:=hC.cell (j:=2) rfl
        have f3:=hC.cell (j:=3) rfl
        have f4:=hC.cell (j:=4) rfl
        have f5:=hC.cell (j:=5) rfl
        have f6:=hC.cell (j:=6) rfl
        have f7:=hC.cell (j:=7) rfl
        have f8:=hC.cell (j:=8) rfl
        have f9:=hC.cell (j:=9) rfl
        have f10:=hC.cell (j:=10) rfl
        rw [Nat.add_zero] at f0
        clear hC
        have hmem:=List.getElem_mem i1
        have bA:∀ ob,Below wr.heap.size wr (wr.alloc ob):=fun ob => (Below.refl _ wr).alloc (Nat.le_refl _) ob
        go_wp2_with (go_at_fn 28)
        refine ((p_lineOf _ (hok _ hmem)).str0 (hs.below (bW.alloc bW.size _)) (by simp only [RC]; exact ⟨_,_,rfl,hy0,rfl⟩)).mono ?_
        rintro e w6 ⟨rfl,b6⟩
        have b6':=(bA _).trans (bel_le b6 (by simp))
        clear b6
        have hB6:=isB_below hB b6'
        have hll:(lineS p.steps[i]).length≤200001:=by have:=wordsS_len (hok _ hmem); simp only [lineS,lineW,List.length_append,List.length_singleton]; omega
        have hws2:=Any.Builder_WriteString lays_write lays1_join w1.heap.size w1.heap.size (Lib.byteCells t) ⟨(lineS p.steps[i]).toArray⟩ w6 hB6 (by simp only [Lib.byteCells,List.length_map,ByteArray.size,List.size_toArray]; omega) (by have:=b6'.size; omega)
        go_wp2_with (go_at_fn 25)
        refine hws2.mono ?_
        rintro e w7 ⟨rfl,i7,b7⟩
        clear hws2
        go_wp2
        go_roundw
        case rel =>
          refine ⟨i+1,by simp,by omega,⟨t++lineS p.steps[i], ?_,by simp only [List.length_append]; omega, ?_⟩, ?_, ?_⟩
          · rw [ht,List.take_succ_eq_append_getElem i1,List.map_append,List.flatten_append]; simp
          · refine .inr ?_
            rw [Lib.byteCells_append]; exact i7
          · exact (bW.trans (bel_le b6' bW.size)).trans (bel_le b7 (by have:=b01.size; omega))
          · have:=b6'.size; have:=b7.size; omega
        case measure =>
          simp
          omega
      · have hie:i=p.steps.length:=by omega
        subst hie
        rw [List.take_length] at ht
        have hst:=Any.Builder_String_any lays_string lays1_join w1.heap.size w1.heap.size t wr hB hW
        go_wp2_with (go_at_fn 29)
        refine hst.mono ?_
        rintro e w8 ⟨rfl,b8⟩
        go_wp2
        go_ret2
        exact ⟨by simp [printS,hp,planT,ht],bW.trans (bel_le b8 (by have:=b01.size; omega))⟩
theorem p_print (p:Pln) (h:∀ s∈p.steps,okStp s) (hln:planB p=true→∀ s∈p.steps,okLn s):PCall Tryz.prog 9 [plnV p] (.tup [.str (printS p).1,.int .i64 (printS p).2]):=by
  refine .of_below ⟨Tryz.f9,Tryz.func9,rfl,by kernel_rfl⟩ fun g m w xs hs hx => ?_
  simp only [RC] at hx
  obtain ⟨y,ys,e1,hy,rfl⟩:=hx
  obtain rfl:xs=#[y]:=by apply Array.ext'; simpa using e1
  have hs0:RS (G0 g.F) (fun _ => none) w:=⟨hs.fro,by simp,by simp,hs.tab⟩
  refine (print_walk p h hln g.F w y hs0 (R.closed (g:=g) (g':=G0 g.F) (fun _ _ k => k) _ _ (plnV_closed p) hy)).mono ?_
  rintro e w' ⟨rfl,hw⟩
  exact ⟨_,rfl,by simp [R,RC],hw⟩
end
def okAll (p:Pln):Prop:=(∀ s∈p.steps,okStp s∧(i64 s.cmd.token∧i64 s.cmd.time∧(∀ t∈s.cmd.dag.tasks,okTk t)∧∀ x∈s.masks,i64 x))∧p.steps.length≤4611686018427387904
section
def okOne (s:Stp):Prop:=okStp s∧(i64 s.cmd.token∧i64 s.cmd.time∧(∀ t∈s.cmd.dag.tasks,okTk t)∧∀ x∈s.masks,i64 x)
theorem planG_okAll:∀ (f:Nat) (s:Str) (acc:List Stp) (z:Int),s.length≤1000000000→(∀ x∈acc,okOne x)→acc.length≤200→okAll (planG f s acc z).1
  | 0,s,acc,z,_,ha,hl => ⟨ha,by simp only [planG]; omega⟩
  | f+1,s,acc,z,hs,ha,hl => by
    rw [planG]
    obtain ⟨b1,b2⟩:=cutC_le 10 s
    split
    · exact ⟨ha,by simp only; omega⟩
    split
    · rename_i c
      refine planG_okAll f _ _ _ (by omega) (fun x hx => ?_) (by simp; omega)
      rcases List.mem_append.1 hx with hx | hx
      · exact ha x hx
      · simp only [List.mem_singleton] at hx; subst hx
        have hwl:=piece_len 32 (cutC 10 s).1
        have hws:=splitC_len 32 (cutC 10 s).1
        exact readR_ok _ (by omega) (fun w h => Nat.le_trans (hwl w h) (by omega))
    · exact ⟨by simp [zeroP],by simp [zeroP]⟩
theorem refPl_ok (s:Str) (hs:s.length≤1000000000):okAll (refPl s).1:=by
  unfold refPl
  obtain ⟨b1,b2⟩:=cutC_le 10 s
  split
  · exact planG_okAll _ _ _ _ (by omega) (by simp) (by simp)
  · exact ⟨by simp [zeroP],by simp [zeroP]⟩
theorem flat_le {f:Stp→Str} {K:Nat}:∀ {l:List Stp},(∀ x∈l,(f x).length≤K)→((l.map f).flatten).length≤K*l.length
  | [],_ => by simp
  | a::l,h => by
    have:=flat_le (l:=l) fun x hx => h x (by simp [hx])
    have:=h a (by simp)
    simp only [List.map_cons,List.flatten_cons,List.length_append,List.length_cons,Nat.mul_succ]; omega
theorem planT_len {p:Pln} (h:okAll p) (hp:planB p=true):(planT p).length≤1000000000:=by
  simp only [planB,Bool.and_eq_true,decide_eq_true_eq,List.all_eq_true] at hp
  obtain ⟨⟨h1,h2⟩,h3⟩:=hp
  have hf:((p.steps.map lineS).flatten).length≤200001*p.steps.length:=flat_le fun x hx => by
    have:=wordsS_len ⟨h3 x hx,(h.1 x hx).2⟩
    simp only [lineS,lineW,List.length_append,List.length_singleton]; omega
  have hi:=itoa_len (n:=p.size) (by omega)
  simp only [planT,sizeW,lineW,Lib.join_cons,Lib.joinTail,wSize,List.length_append,List.length_singleton]
  simp only [List.map_cons,List.map_nil,List.flatten_cons,List.flatten_nil,List.length_cons,List.length_nil,List.length_append]
  omega
set_option maxHeartbeats 1000000 in
theorem law_back25 (p:Pln) (s:Str) (hp:okAll p) (hl:s.length≤1000000000):PCall Tryz.prog 4 [plnV p,.str s] (.bool true):=by
  refine en4 (by simp) (by simp [closedL,plnV_closed,V.closed]) ?_
  have hs:∀ s∈p.steps,okStp s:=fun s hs => (hp.1 s hs).1
  have hln:planB p=true→∀ s∈p.steps,okLn s:=fun hq s hs => ⟨by simp [planB] at hq; exact hq.2 s hs,(hp.1 s hs).2⟩
  have kpr:=p_print p hs hln
  have k2:=p_plan s hl
  have ho:=refPl_ok s hl
  rw [← parse_ref] at ho
  have kb:∀ q k,parsePl s=(q,0,k)→k=0∧planB q=true∧planT q=s:=fun q k h => plan_back h
  have ke:∀ q e k,parsePl s=(q,e,k)→e≠0→q=zeroP:=fun q e k h he => plan_err h he
  generalize parsePl s=t at k2 ho kb ke
  obtain ⟨q,e,k⟩:=t
  simp only at k2 ho
  have hqs:∀ s∈q.steps,okStp s:=fun s hs => (ho.1 s hs).1
  have hqln:planB q=true→∀ s∈q.steps,okLn s:=fun hq s hs => ⟨by simp [planB] at hq; exact hq.2 s hs,(ho.1 s hs).2⟩
  have kq:=p_print q hqs hqln
  have kz:=r_likeP zeroP zeroP (by simp [zeroP]) (by simp [zeroP]) (by simp [zeroP])
  have kr:=p_right q hqs
  have kpp:=r_likeP p p hs hs hp.2
  have kt:planB p=true→PCall Tryz.prog 5 [.str (planT p)] (.tup [plnV p,.int .i64 0,.int .i64 0]):=fun hb => by
    have:=p_plan (planT p) (planT_len hp hb)
    rw [plan_of hb] at this; exact this
  unfold plnV at kpr k2 kq kz kr kpp kt
  simp (maxSteps:=1000000) (disch:=omega) only [rg,gD,simprocAttr,c4,plnV]
  refine ⟨_,kpr, ?_⟩
  cases hb:planB p with
  | false =>
    simp (maxSteps:=1000000) (disch:=omega) only [rg,gD,simprocAttr,printS,hb]
    refine ⟨_,k2, ?_⟩
    by_cases he:e=0
    · subst he
      obtain ⟨rfl,hq,ht⟩:=kb q k rfl
      have hps:printS q=(s,0):=by rw [printS,if_pos hq,ht]
      rw [hps] at kq
      rw [hq] at kr
      simp (maxSteps:=1000000) (disch:=omega) only [rg,gD,simprocAttr]
      refine ⟨_,kq, ?_⟩
      simp (maxSteps:=1000000) (disch:=omega) only [rg,gD,simprocAttr]
      refine ⟨_,p_alive, ?_⟩
      simp (maxSteps:=1000000) (disch:=omega) only [rg,gD,simprocAttr]
      refine ⟨_,kr, ?_⟩
      simp (maxSteps:=1000000) (disch:=omega) only [rg,gD,simprocAttr]
      (refine fin_x rfl ?_ ?_<;>simp [pack,lo,loL,V.closed,closedL,mv_closed])
    · obtain rfl:=ke q e k rfl he
      simp (maxSteps:=1000000) (disch:=omega) only [rg,gD,simprocAttr,he]
      refine ⟨_,p_alive, ?_⟩
      simp (maxSteps:=1000000) (disch:=omega) only [rg,gD,simprocAttr]
      refine ⟨_,PCall.of_eq kz (by simp [loL,lo,mv,zeroP]), ?_⟩
      simp (maxSteps:=1000000) (disch:=omega) only [rg,gD,simprocAttr]
      (refine fin_x rfl ?_ ?_<;>simp [pack,lo,loL,V.closed,closedL,mv_closed])
  | true =>
    simp (maxSteps:=1000000) (disch:=omega) only [rg,gD,simprocAttr,printS,hb]
    refine ⟨_,kt hb, ?_⟩
    simp (maxSteps:=1000000) (disch:=omega) only [rg,gD,simprocAttr]
    refine ⟨_,kpp, ?_⟩
    simp (maxSteps:=1000000) (disch:=omega) only [rg,gD,simprocAttr]
    refine ⟨_,k2, ?_⟩
    by_cases he:e=0
    · subst he
      obtain ⟨rfl,hq,ht⟩:=kb q k rfl
      have hps:printS q=(s,0):=by rw [printS,if_pos hq,ht]
      rw [hps] at kq
      rw [hq] at kr
      simp (maxSteps:=1000000) (disch:=omega) only [rg,gD,simprocAttr]
      refine ⟨_,kq, ?_⟩
      simp (maxSteps:=1000000) (disch:=omega) only [rg,gD,simprocAttr]
      refine ⟨_,p_alive, ?_⟩
      simp (maxSteps:=1000000) (disch:=omega) only [rg,gD,simprocAttr]
      refine ⟨_,kr, ?_⟩
      simp (maxSteps:=1000000) (disch:=omega) only [rg,gD,simprocAttr]
      (refine fin_x rfl ?_ ?_<;>simp [pack,lo,loL,V.closed,closedL,mv_closed])
    · obtain rfl:=ke q e k rfl he
      simp (maxSteps:=1000000) (disch:=omega) only [rg,gD,simprocAttr,he]
      refine ⟨_,p_alive, ?_⟩
      simp (maxSteps:=1000000) (disch:=omega) only [rg,gD,simprocAttr]
      refine ⟨_,PCall.of_eq kz (by simp [loL,lo,mv,zeroP]), ?_⟩
      simp (maxSteps:=1000000) (disch:=omega) only [rg,gD,simprocAttr]
      (refine fin_x rfl ?_ ?_<;>simp [pack,lo,loL,V.closed,closedL,mv_closed])
end
def sTCmd:Ty:=.st (.cons yI (.cons .s (.cons .s (.cons yI (.cons yI (.cons .s (.cons (.st (fDag .nil)) .nil)))))))
def yStep:Ty:=.st (.cons sTCmd (.cons .b (.cons .b (.cons yIs .nil))))
def tPln:Ty:=.st (.cons yI (.cons (.l 11 144 yStep) .nil))
def sArg (s:Stp):Prop:=okStp s∧(i64 s.cmd.token∧i64 s.cmd.time∧(∀ t∈s.cmd.dag.tasks,okTk t)∧∀ x∈s.masks,i64 x)
theorem sReach:reachBytes≤140737488355328:=by decide
theorem step_of {us:List V} (h:TyV yStep us):∃ s:Stp,el yStep us=stpV s∧sArg s:=by
  obtain ⟨u0,w0,rfl,h0,v1,w1',rfl,⟨x1,rfl⟩,v2,w2',rfl,⟨x2,rfl⟩,v3,w3',rfl,h9,rfl⟩:=h
  obtain ⟨u1,w1,rfl,h1,u2,w2,rfl,h2,u3,w3,rfl,h3,u4,w4,rfl,h4,u5,w5,rfl,h5,u6,w6,rfl,h6,u7,w7,rfl,h7,rfl⟩:=h0
  obtain ⟨a,rfl,qa⟩:=yI_of h1
  obtain ⟨b,rfl,qb⟩:=yS_of h2
  obtain ⟨c,rfl,qc⟩:=yS_of h3
  obtain ⟨d,rfl,qd⟩:=yI_of h4
  obtain ⟨e,rfl,qe⟩:=yI_of h5
  obtain ⟨f,rfl,qf⟩:=yS_of h6
  obtain ⟨g,ws,rfl,⟨qg1,qg2,qg3⟩,hw⟩:=fDag_of (r:=.nil) h7
  obtain rfl:ws=[]:=hw
  obtain ⟨m,rfl,qm,qm2⟩:=yIs_of h9
  have hr:=sReach
  unfold okStr at qb qc qf qg1
  refine ⟨⟨⟨a,b,c,d,e,f,g⟩,x1,x2,m⟩,rfl,⟨⟨Nat.le_trans qb hr,Nat.le_trans qc hr,Nat.le_trans qf hr,by simp only; omega,fun t ht => ?_,fun t ht => ?_,qd.2,qe.2⟩,by simp only; omega⟩,qd,qe,fun t ht => ?_,qm2⟩
  · obtain ⟨_,z2,_⟩:=qg3 t ht
    omega
  · obtain ⟨z1,z2,z3,z4,z5⟩:=qg3 t ht
    exact ⟨fun x hx => (z1 x hx).2,z3.2,z4.2,z5.2⟩
  · obtain ⟨z1,z2,z3,z4,z5⟩:=qg3 t ht
    exact ⟨z1,z3,z4,z5⟩
theorem pln_of {vs:List V} (h:TyV tPln vs):∃ p:Pln,vs=[.int .i64 p.size,.fsl .loose 11 (mv stpV p.steps)]∧okAll p:=by
  obtain ⟨u1,w1,rfl,h1,u2,w2,rfl,h2,rfl⟩:=h
  obtain ⟨a,rfl,qa⟩:=yI_of h1
  obtain ⟨l,rfl,hl,hq⟩:=list_of (e:=yStep) (f:=stpV) (q:=sArg) (fun us hu => step_of hu) h2
  have hr:=sReach
  exact ⟨⟨a,l⟩,rfl,hq,by simp only; omega⟩
theorem row_back25 (p:Pln) (s:Str) (hp:okAll p) (h:s.length≤1048576):PCall Tryz.prog 4 [.agg [.int .i64 p.size,.fsl .loose 11 (mv stpV p.steps)],.str s] (.bool true):=law_back25 p s hp (by omega)
theorem str_R (g:G) (s:ByteArray):R g (.str s.data.toList) (.string s):=by
  simp only [R]
end Go.Proofs.YtnglmdheiabdcaaGreatDoor.Ev
