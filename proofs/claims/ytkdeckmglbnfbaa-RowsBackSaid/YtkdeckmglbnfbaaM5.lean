/-
  Part 5 of what the proof of the statement RowsBack leans on: the evaluator, the functions in compact form, and what they answer.
-/
import Derived.Test.YtkdeckmglbnfbaaM4
import Derived.Test.YtkdeckmglbnfbaaProg
import Derived.KernelRfl
set_option linter.unusedSimpArgs false
set_option linter.unusedVariables false
set_option maxRecDepth 10000
namespace Go.Proofs.Ytkdeckmglbnfbaa.Ev
open Go
def c4:C :=
  (.seq
 (.reg false [p (.box 4 (.v 0)),
 p (.mov (.k (.bool false)))] [(1,.r 1)])
 (.seq
 (.reg false [p (.load (some 4) (.v 1)),
 p (.call true (.k (.fn 5 [] [])) [.r 0]),
 p (.store (some 4) (.v 1) (.r 0))] [(1,.v 1)])
 (.seq
 (.reg false [p (.load (some 4) (.v 1)),
 p (.call true (.k (.fn 6 [] [])) [.r 0]),
 p (.mov (.r 0)),
 p (.ext (.r 0) 0),
 p (.ext (.r 1) 1),
 p (.mov (.r 1)),
 p (.mov (.r 1))] [(1,.v 1),(3,.r 1),(4,.r 0)])
 (.seq
 (.seq
 (.reg false [p (.mov (.v 4)),
 p (.bin .neq (.r 0) (.k (.int .i64 0)))] [(1,.v 1),(3,.v 3),(17,.r 0)])
 (.cond (.v 17)
 (.seq
 (.reg false [p (.call true (.k (.fn 7 [] [])) []),
 p (.mov (.r 0)),
 ⟨.load (some 4) (.v 1),some (0,true),[]⟩,
 ⟨.call true (.k (.fn 11 [] [])) [.r 0],some (1,true),[]⟩,
 ⟨.un .not (.r 0),some (2,true),[]⟩,
 p (.pick (.r 3) (.r 0) (.k (.bool false))),
 p (.mov (.r 0))] [(2,.r 0)])
 .ret)
 .skip))
 (.seq
 (.seq
 (.reg false [p (.mov (.v 3)),
 p (.len false (.r 0)),
 p (.mov (.k (.int .i64 0)))] [(1,.v 1),(3,.v 3),(24,.r 2),(25,.r 1),(26,.r 0)])
 (.block 0
 (.loop
 (.seq
 (.reg false [p (.bin .lss (.v 26) (.v 25))] [(1,.v 1),(3,.v 3),(24,.v 24),(25,.v 25),(26,.v 26),(27,.r 0)])
 (.seq
 (.cond (.v 27)
 .skip
 (.exit 0))
 (.seq
 (.block 1
 (.seq
 (.reg false [p (.mov (.v 26)),
 p (.iad 2 (.v 24) (.v 26)),
 p (.load (some 2) (.r 0)),
 p (.alloc 2 (.agg [.str [],.str []])),
 p (.mov (.r 3)),
 p (.store (some 2) (.r 1) (.r 2))] [(1,.v 1),(3,.v 3),(5,.r 1),(6,.r 2),(24,.v 24),(25,.v 25),(26,.v 26)])
 (.seq
 (.reg true [p (.fad 0 (.v 6)),
 p (.load (none) (.r 0)),
 p (.len true (.r 0)),
 p (.bin .lss (.r 0) (.k (.int .i64 1))),
 p (.mov (.r 0)),
 ⟨.fad 0 (.v 6),some (0,false),[]⟩,
 ⟨.load (none) (.r 0),some (1,false),[]⟩,
 ⟨.len true (.r 0),some (2,false),[]⟩,
 ⟨.bin .gtr (.r 0) (.k (.int .i64 18)),some (3,false),[]⟩,
 p (.pick (.r 4) (.k (.bool true)) (.r 0)),
 p (.mov (.r 0)),
 ⟨.fad 1 (.v 6),some (0,false),[]⟩,
 ⟨.load (none) (.r 0),some (1,false),[]⟩,
 ⟨.len true (.r 0),some (2,false),[]⟩,
 ⟨.bin .gtr (.r 0) (.k (.int .i64 200)),some (3,false),[]⟩,
 p (.pick (.r 4) (.k (.bool true)) (.r 0)),
 p (.mov (.r 0)),
 ⟨.mov (.v 5),some (0,false),[]⟩,
 ⟨.bin .gtr (.r 0) (.k (.int .i64 0)),some (1,false),[]⟩,
 ⟨.mov (.r 0),some (2,false),[]⟩,
 ⟨.mov (.v 3),some (0,true),[]⟩,
 ⟨.mov (.v 5),some (1,true),[]⟩,
 ⟨.bin .sub (.r 0) (.k (.int .i64 1)),some (2,true),[]⟩,
 ⟨.iad 2 (.r 2) (.r 0),some (3,true),[]⟩,
 ⟨.fad 0 (.r 0),some (4,true),[]⟩,
 ⟨.load (none) (.r 0),some (5,true),[]⟩,
 ⟨.fad 0 (.v 6),some (6,true),[]⟩,
 ⟨.load (none) (.r 0),some (7,true),[]⟩,
 ⟨.bin .geq (.r 2) (.r 0),some (8,true),[]⟩,
 ⟨.pick (.r 9) (.r 0) (.k (.bool false)),some (12,false),[]⟩,
 p (.pick (.r 13) (.k (.bool true)) (.r 0))] [(1,.v 1),(3,.v 3),(24,.v 24),(25,.v 25),(26,.v 26),(61,.r 0)])
 (.cond (.v 61)
 (.seq
 (.reg false [p (.mov (.k (.bool false)))] [(2,.r 0)])
 .ret)
 .skip))))
 (.reg false [p (.bin .add (.v 26) (.k (.int .i64 1))),
 p (.mov (.r 0))] [(1,.v 1),(3,.v 3),(24,.v 24),(25,.v 25),(26,.r 0)])))))))
 (.frz
 (.seq
 (.reg false [p (.mov (.v 3)),
 p (.call true (.k (.fn 12 [] [])) [.r 0]),
 p (.mov (.r 0)),
 p (.ext (.r 0) 0),
 p (.ext (.r 1) 1),
 p (.alloc 4 (.agg [.int .i64 0,.int .i64 0,.fsl .nil 2 [],.fsl .nil 5 []])),
 p (.store (some 4) (.r 0) (.r 2)),
 p (.mov (.r 2))] [(1,.v 1),(7,.r 2),(8,.r 0)])
 (.seq
 (.reg false [p (.call true (.k (.fn 7 [] [])) []),
 p (.mov (.r 0)),
 ⟨.mov (.v 8),some (0,true),[]⟩,
 ⟨.bin .eql (.r 0) (.k (.int .i64 0)),some (1,true),[]⟩,
 p (.pick (.r 2) (.r 0) (.k (.bool false))),
 p (.mov (.r 0)),
 ⟨.load (some 4) (.v 7),some (0,true),[]⟩,
 ⟨.load (some 4) (.v 1),some (1,true),[]⟩,
 ⟨.call true (.k (.fn 9 [] [])) [.r 1,.r 0],some (2,true),[]⟩,
 p (.pick (.r 3) (.r 0) (.k (.bool false))),
 p (.mov (.r 0))] [(2,.r 0)])
 .ret))))))))
def r4:List RV:=[.t 2]
theorem en4:EnP Try.prog 4 78 c4 r4:=mkEnP (by kernel_rfl) Try.func4 (by kernel_rfl) ⟨_,rfl,by kernel_rfl,by kernel_rfl⟩
section
open Classical in
set_option maxHeartbeats 1000000 in
theorem law_back21 (a:Wd) (ha:WdA a):PCall Try.prog 4 [wdV a] (.bool true):=by
  refine en4 (by simp) (by simp [closedL,wdV_closed]) ?_
  have fa:=law_few21 a ha
  have ma:=few_M ha
  generalize fewS a=x at fa ma
  have h1:=rows_rows x ma
  have h2:=world_right x ma.ok
  simp (maxSteps:=1000000) (disch:=omega) only [rg,gD,simprocAttr,c4,getC_wd,setC_wd]
  refine ⟨⟨rfl,rfl⟩,_,fa, ?_⟩
  simp (maxSteps:=1000000) (disch:=omega) only [rg,gD,simprocAttr,getC_wd,setC_wd]
  refine ⟨_,h1, ?_⟩
  by_cases c1:WR x
  case neg =>
    rw [if_neg c1,if_neg c1]
    rw [decide_eq_false c1] at h2
    simp (maxSteps:=1000000) (disch:=omega) only [rg,gD,simprocAttr]
    refine ⟨_,law_alive21, ?_⟩
    simp (maxSteps:=1000000) (disch:=omega) only [rg,gD,simprocAttr,getC_wd]
    refine ⟨_,h2, ?_⟩
    simp (maxSteps:=1000000) (disch:=omega) only [rg,gD,simprocAttr]
    (refine fin_x rfl ?_ ?_<;>simp [pack,lo,loL,V.closed,closedL,mv_closed])
  rw [if_pos c1,if_pos c1]
  have l1:=rows_len1 c1
  have hsm:=fun p (hp:p∈rowsS x) => pairs_small c1 hp
  have hsr:=(rows_ok c1).1
  have hld:=rows_load .loose (rowsS x) l1 fun p hp => by have:=hsm p hp; omega
  rw [load_rows c1] at hld
  have hlk:=like_wd x x ma.L ma.L
  rw [decide_eq_true rfl] at hlk
  generalize rowsS x=X at *
  simp (maxSteps:=1000000) (disch:=omega) only [rg,gD,simprocAttr,prsV,mv_len]
  refine x_it X.length (fun k σ H => H.m 0=some (.arr 4 [wdV x])∧1≤H.n∧σ=[(1,.ptr 0 0 0),(3,.fsl .loose 2 (mv prV X)),(24,.fsl .loose 2 (mv prV X)),(25,.int .i64 (X.length:Int)),(26,.int .i64 (k:Int))]) ⟨(by simp (disch:=omega) only [upd_eq,upd_ne,wo_0,wo_1,wo_2]),by simp,rfl⟩ ?_
  rintro T i σ ⟨n,m⟩ hii ⟨e0,hn,rfl⟩ hN hX hR
  simp only at e0 hn
  by_cases hi:i < X.length
  · have hp:=hsm _ (List.getElem_mem hi)
    obtain ⟨p,hpd⟩:∃ p,X[i]=p:=⟨_,rfl⟩
    rw [hpd] at hp
    by_cases hz:i=0
    · subst hz
      simp (maxSteps:=1000000) (disch:=omega) only [rg,gD,simprocAttr,show (0:Int) < X.length by omega,mv_get hi,hpd,Int.toNat_natCast,getC_pr,prV,show ¬ (p.1.length:Int) < 1 by omega,show ¬ (18:Int) < p.1.length by omega,show ¬ (200:Int) < p.2.length by omega]
      refine hN _ _ hi ⟨?_, ?_,rfl⟩
      · simp (disch:=omega) only [upd_ne,e0]
      · show 1≤n+1; omega
    · obtain ⟨j,rfl⟩:∃ j,i=j+1:=⟨i - 1,by omega⟩
      have hj:j < X.length:=by omega
      have hlt:=List.pairwise_iff_getElem.1 hsr j (j+1) hj hi (by omega)
      rw [hpd] at hlt
      have hlt':Op.bytesLess X[j].1 p.1=true:=hlt
      simp (maxSteps:=1000000) (disch:=omega) only [rg,gD,simprocAttr,show ((j+1:Nat):Int) < X.length by omega,mv_get hi,mv_get hj,hpd,Int.toNat_natCast,getC_pr,prV,show ¬ (p.1.length:Int) < 1 by omega,show ¬ (18:Int) < p.1.length by omega,show ¬ (200:Int) < p.2.length by omega,show (0:Int) < ((j+1:Nat):Int) by omega,show (((j+1:Nat):Int) - 1)=(j:Int) by omega,hlt']
      refine hN _ _ hi ⟨?_, ?_,rfl⟩
      · simp (disch:=omega) only [upd_ne,e0]
      · show 1≤n+1; omega
  · obtain rfl:i=X.length:=by omega
    simp (maxSteps:=1000000) (disch:=omega) only [rg,gD,simprocAttr,show ¬ (X.length:Int) < X.length by omega]
    refine hX _ _ _ ?_
    simp (maxSteps:=1000000) (disch:=omega) only [rg,gD,simprocAttr]
    refine x_frz0 ?_
    simp (maxSteps:=1000000) (disch:=omega) only [rg,gD,simprocAttr]
    refine ⟨_,hld, ?_⟩
    simp (maxSteps:=1000000) (disch:=omega) only [rg,gD,simprocAttr,e0]
    have sz:setC (some 4) 0 (V.agg [V.int .i64 0,V.int .i64 0,V.fsl .nil 2 [],V.fsl .nil 5 []]) (wdV x)=some (wdV x):=rfl
    simp (maxSteps:=1000000) (disch:=omega) only [rg,gD,simprocAttr,e0,sz]
    refine ⟨_,law_alive21, ?_⟩
    simp (maxSteps:=1000000) (disch:=omega) only [rg,gD,simprocAttr,e0,getC_wd]
    refine ⟨_,hlk, ?_⟩
    simp (maxSteps:=1000000) (disch:=omega) only [rg,gD,simprocAttr]
    (refine fin_x rfl ?_ ?_<;>simp [pack,lo,loL,V.closed,closedL,mv_closed])
theorem row_back21 (a:Wd) (ha:WdA a):PCall Try.prog 4 [.agg [.int .i64 a.now,.int .i64 a.token,.fsl .loose 2 (mv dagV a.dags),.fsl .loose 5 (mv rnV a.runs)]] (.bool true) :=
  law_back21 a ha
end
end Go.Proofs.Ytkdeckmglbnfbaa.Ev
