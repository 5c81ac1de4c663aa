/-
  Part 5 of what the proof of the statement RowsDiffs leans on: the evaluator, the functions in compact form, and what they answer.
-/
import Derived.Test.YtkdeckmglbnfbaaGreatM4
import Derived.Test.YtkdeckmglbnfbaaGreatProg
import Derived.KernelRfl
set_option linter.unusedSimpArgs false
set_option linter.unusedVariables false
set_option maxRecDepth 10000
namespace Go.Proofs.YtkdeckmglbnfbaaGreat.Ev
open Go
section
theorem ref21_number (n k:Int) (hn:n≤9223372036854775807):PCall Tryz.prog 75 [.int .i64 n,.int .i64 k] (.str (putS n k).1):=by
  refine en75 (by simp) (by simp [closedL,V.closed]) ?_
  simp (maxSteps:=1000000) (disch:=omega) only [rg,gD,simprocAttr,c75]
  refine ⟨_,ref_put n k hn, ?_⟩
  simp (maxSteps:=1000000) (disch:=omega) only [rg,gD,simprocAttr,sV]
  (refine fin_x rfl ?_ ?_<;>simp [pack,lo,loL,V.closed,closedL,mv_closed])
theorem withP_len (k v:Str):∀ (put:Bool) (l:List Pr),(withP k v put l).length≤l.length+1
  | put,[] => by simp only [withP]; split<;>simp
  | true,p::l => by
    rw [withP_true]; exact Nat.le_trans (List.length_filter_le _ _) (Nat.le_succ _)
  | false,p::l => by
    simp only [withP,true_and,Bool.false_or]
    cases h:ltS p.1 k with
    | true =>
      have:=withP_len k v false l
      simp only [Bool.true_eq_false,if_false,Bool.not_true,List.nil_append,List.length_append,List.length_cons]
      have:(if p.1≠k then [p] else []).length≤1:=by split<;>simp
      omega
    | false =>
      have:=List.length_filter_le (fun q:Pr => decide (q.1≠k)) l
      simp only [if_true,Bool.not_false,withP_true,List.length_append,List.length_cons,List.length_nil]
      have:(if p.1≠k then [p] else []).length≤1:=by split<;>simp
      omega
theorem putsP_len:∀ (l l0:List Pr),(putsP l0 l).length≤l0.length+l.length
  | [],l0 => by simp [putsP]
  | p::l,l0 => by
    have h1:=putsP_len l (withP p.1 p.2 false l0)
    have h2:=withP_len p.1 p.2 false l0
    simp only [putsP,List.foldl_cons,List.length_cons] at h1 ⊢; omega
theorem with_st (st:St) (l:List Pr) (k v:Str) (hl:l.length≤100000):PCall Tryz.prog 74 [.fsl st 2 (mv prV l),.str k,.str v] (.fsl .loose 2 (mv prV (withP k v false l))) :=
  (ref_with8 l k v hl).of_eq (by simp [loL,lo,prsV,mv_lo prV_lo])
theorem dagB_len {d:Dag} (h:dagRightS d=0):(dagB d).length≤1000:=by
  rw [← right_same] at h
  obtain ⟨_,h10,h16,_,hn⟩:=right_fit h
  have p1:=putS_len1 d.tasks.length; have p2:=textS_len d.name; have p3:=tsksB_len hn
  have:d.tasks.length*(10+8)≤10*18:=Nat.mul_le_mul h10 (Nat.le_refl _)
  unfold dagB; simp; omega
set_option maxHeartbeats 2000000 in
theorem ref_rows (w:Wd) (ok:WdM w) (hw:WR w):PCall Tryz.prog 29 [wdV w] (prsV (rowsS w)):=by
  refine en29 (by simp) (by simp [closedL,wdV_closed]) ?_
  have hnd:=hw.ndags
  have hnr:=hw.nruns
  have hfew:=hw.few
  have hML:(metaPr w).length≤1:=by unfold metaPr; split<;>simp
  simp (maxSteps:=1000000) (disch:=omega) only [rg,gD,simprocAttr,c29,getC_wnow,getC_wtok]
  refine ⟨⟨rfl,rfl⟩, ?_⟩
  obtain ⟨M,hMd⟩:∃ M:Sg→Hp→Prop,∀ σ' H',M σ' H'↔(H'.m 0=some (.arr 4 [wdV w])∧1≤H'.n∧(∃ st,find 3 σ'=some (.fsl st 2 (mv prV (putsP [] (metaPr w)))))∧find 1 σ'=some (.ptr 0 0 0)):=⟨_,fun _ _ => Iff.rfl⟩
  refine ⟨M, ?_, ?_⟩
  · by_cases c:0 < w.now∨0 < w.token
    · have hmeta:metaPr w=[([109],(putS w.now 6).1++(putS w.token 6).1)]:=by unfold metaPr; rw [if_pos c]
      have t1:=hw.now.2
      have t2:=hw.token.2
      unfold MT at t1 t2
      have p1:=putS_len w.now 6
      have p2:=putS_len w.token 6
      have hwt:=with_st .full [] [109] ((putS w.now 6).1++(putS w.token 6).1) (by simp)
      by_cases c1:0 < w.now
      · simp (maxSteps:=1000000) (disch:=omega) only [rg,gD,simprocAttr,getC_wnow,getC_wtok,c1]
        refine ⟨_,ref21_number w.now 6 (by omega), ?_⟩
        simp (maxSteps:=1000000) (disch:=omega) only [rg,gD,simprocAttr,getC_wtok]
        refine ⟨_,ref21_number w.token 6 (by omega), ?_⟩
        simp (maxSteps:=1000000) (disch:=omega) only [rg,gD,simprocAttr]
        refine ⟨by omega,_,hwt, ?_⟩
        simp (maxSteps:=1000000) (disch:=omega) only [rg,gD,simprocAttr]
        exact (hMd _ _).2 ⟨(by simp (disch:=omega) only [upd_eq,upd_ne,wo_0,wo_1,wo_2]),by show 1≤1; omega,⟨.loose,by rw [hmeta]; rfl⟩,rfl⟩
      · have c2:0 < w.token:=c.resolve_left c1
        simp (maxSteps:=1000000) (disch:=omega) only [rg,gD,simprocAttr,getC_wnow,getC_wtok,c1,c2]
        refine ⟨_,ref21_number w.now 6 (by omega), ?_⟩
        simp (maxSteps:=1000000) (disch:=omega) only [rg,gD,simprocAttr,getC_wtok]
        refine ⟨_,ref21_number w.token 6 (by omega), ?_⟩
        simp (maxSteps:=1000000) (disch:=omega) only [rg,gD,simprocAttr]
        refine ⟨by omega,_,hwt, ?_⟩
        simp (maxSteps:=1000000) (disch:=omega) only [rg,gD,simprocAttr]
        exact (hMd _ _).2 ⟨(by simp (disch:=omega) only [upd_eq,upd_ne,wo_0,wo_1,wo_2]),by show 1≤1; omega,⟨.loose,by rw [hmeta]; rfl⟩,rfl⟩
    · have hmeta:metaPr w=[]:=by unfold metaPr; rw [if_neg c]
      have c1:¬ 0 < w.now:=fun h => c (.inl h)
      have c2:¬ 0 < w.token:=fun h => c (.inr h)
      simp (maxSteps:=1000000) (disch:=omega) only [rg,gD,simprocAttr,getC_wnow,getC_wtok,c1,c2]
      exact (hMd _ _).2 ⟨(by simp (disch:=omega) only [upd_eq,upd_ne,wo_0,wo_1,wo_2]),by show 1≤1; omega,⟨.full,by rw [hmeta]; rfl⟩,rfl⟩
  · rintro σ' ⟨n,m⟩ hm
    obtain ⟨e0,hn,⟨st,s3⟩,s1⟩:=(hMd _ _).1 hm
    simp only at e0 hn
    clear hm hMd M
    simp (maxSteps:=1000000) (disch:=omega) only [rg,gD,simprocAttr,s1,s3,e0,getC_wd2,mv_len]
    refine x_it w.dags.length (fun i σ H => 1≤H.n∧H.m 0=some (.arr 4 [wdV w])∧(∃ st,σ=[(1,.ptr 0 0 0),(3,.fsl st 2 (mv prV (putsP [] (metaPr w++(w.dags.take i).map dagPr)))),(31,.fsl .loose 2 (mv dagV w.dags)),(32,.int .i64 (w.dags.length:Int)),(33,.int .i64 (i:Int))])) ⟨hn,e0,st,by simp⟩ ?_
    clear s1 s3 e0 hn
    clear n m st
    rintro T i σ ⟨n,m⟩ hii ⟨hn,e0,st,rfl⟩ hN hX hR
    simp only at hn e0
    by_cases hi:i < w.dags.length
    · obtain ⟨d,hd⟩:∃ d,d=w.dags[i]:=⟨_,rfl⟩
      have hdm:dagRightS d=0:=hw.dags _ (hd ▸ List.getElem_mem hi)
      have htk:=dags_take hi
      rw [← hd] at htk
      have hnl:=dag_nl hdm
      have hbl:=dagB_len hdm
      have hr:=right_same d
      rw [hdm] at hr
      obtain ⟨_,h10,h16,_,hneeds⟩:=right_fit hr
      have hpd:=ref16_put d (by omega) (fun t ht => by have:=hneeds t ht; omega) (by omega) (dag_N hdm)
      have hpl:=putsP_len (metaPr w++(w.dags.take i).map dagPr) []
      simp only [List.length_append,List.length_map,List.length_take,List.length_nil] at hpl
      have hwt:=with_st st (putsP [] (metaPr w++(w.dags.take i).map dagPr)) ([100]++d.name) (dagB d) (by omega)
      have e5:withP ([100]++d.name) (dagB d) false (putsP [] (metaPr w++(w.dags.take i).map dagPr))=putsP [] (metaPr w++(w.dags.take (i+1)).map dagPr):=by
        rw [htk,← List.append_assoc,putsP_snoc]; rfl
      rw [e5] at hwt
      have n0:(0:Nat)≠n:=by omega
      simp (maxSteps:=1000000) (disch:=omega) only [rg,gD,simprocAttr,show (i:Int) < w.dags.length by omega,mv_get hi,← hd,Int.toNat_natCast,getC_dags,setC_dag0,dagV]
      refine ⟨by omega, ?_⟩
      unfold dagV at hpd
      refine ⟨_,hpd, ?_⟩
      simp (maxSteps:=1000000) (disch:=omega) only [rg,gD,simprocAttr]
      refine ⟨_,hwt, ?_⟩
      simp (maxSteps:=1000000) (disch:=omega) only [rg,gD,simprocAttr]
      exact hN _ _ hi ⟨by show 1≤n+1; omega,(by simp (disch:=omega) only [upd_eq,upd_ne,wo_0,wo_1,wo_2,e0]),.loose,rfl⟩
    · simp (maxSteps:=1000000) (disch:=omega) only [rg,gD,simprocAttr,show ¬ (i:Int) < w.dags.length by omega]
      refine hX _ _ _ ?_
      simp (maxSteps:=1000000) (disch:=omega) only [rg,gD,simprocAttr]
      obtain rfl:i=w.dags.length:=by omega
      rw [List.take_length]
      clear hN hX hR
      refine x_frz0 ?_
      simp (maxSteps:=1000000) (disch:=omega) only [rg,gD,simprocAttr,e0,getC_wrs2,mv_len]
      have hbl:(putsP [] (metaPr w++w.dags.map dagPr)).length≤17:=by
        have:=putsP_len (metaPr w++w.dags.map dagPr) []
        simp only [List.length_append,List.length_map,List.length_nil] at this; omega
      have hS:rowsS w=putsP (putsP [] (metaPr w++w.dags.map dagPr)) (runsPr w.runs):=by
        unfold rowsS; rw [← List.append_assoc,putsP_app]
      rw [hS]
      generalize putsP [] (metaPr w++w.dags.map dagPr)=base at hbl ⊢
      refine x_it w.runs.length (fun j σ H => ∃ st,σ=[(3,.fsl st 2 (mv prV (putsP base (runsPr (w.runs.take j))))),(46,.fsl .loose 5 (mv rnV w.runs)),(47,.int .i64 (w.runs.length:Int)),(48,.int .i64 (j:Int))]) ⟨st,by simp [runsPr,putsP]⟩ ?_
      clear e0 hn hi hii hS
      clear n m st
      rintro T j σ ⟨n,m⟩ hjj ⟨st,rfl⟩ hN hX hR
      by_cases hj:j < w.runs.length
      · obtain ⟨r,hr⟩:∃ r,r=w.runs[j]:=⟨_,rfl⟩
        have hmem:r∈w.runs:=hr ▸ List.getElem_mem hj
        have hrr:=(hw.runs r hmem).2
        have hst:=hfew r hmem
        have htk:=runsPr_take hj
        have hpl:=runsPr_len (l:=w.runs.take j) (fun x hx => hfew x (List.mem_of_mem_take hx))
        rw [List.length_take] at hpl
        have hpl2:=putsP_len (runsPr (w.runs.take j)) base
        rw [← hr] at htk
        have hkl:=hrr.name.2
        have hnl:=dag_nl hrr.dag
        have tl:=textS_len r.dag.name
        have his:r.is≤9223372036854775807:=by have:=hrr.kind; unfold kindS at this; (repeat' split at this)<;>omega
        have p1:=putS_len r.is 1
        have hwt:=with_st st (putsP base (runsPr (w.runs.take j))) ([114]++r.key) ((putS r.is 1).1++(textS r.dag.name).1) (by omega)
        have e5:withP ([114]++r.key) ((putS r.is 1).1++(textS r.dag.name).1) false (putsP base (runsPr (w.runs.take j)))=putsP base (runsPr (w.runs.take j)++(runPr r::sttsPr r 0)):=by
          rw [show runsPr (w.runs.take j)++(runPr r::sttsPr r 0)=runsPr (w.runs.take j)++[runPr r] by simp [sttsPr],putsP_snoc]; rfl
        rw [e5] at hwt
        simp (maxSteps:=1000000) (disch:=omega) only [rg,gD,simprocAttr,show (j:Int) < w.runs.length by omega,mv_get hj,← hr,Int.toNat_natCast,getC_runs,setC_rn0,rnV]
        refine ⟨_,ref_text r.dag.name (by omega), ?_⟩
        simp (maxSteps:=1000000) (disch:=omega) only [rg,gD,simprocAttr,sV]
        refine ⟨by omega, ?_⟩
        refine ⟨_,ref21_number r.is 1 his, ?_⟩
        simp (maxSteps:=1000000) (disch:=omega) only [rg,gD,simprocAttr]
        refine ⟨by omega, ?_⟩
        refine ⟨_,hwt, ?_⟩
        simp (maxSteps:=1000000) (disch:=omega) only [rg,gD,simprocAttr,sttsV,mv_len]
        refine x_it r.states.length (fun i σ H => n+1≤H.n∧H.m n=some (.arr 5 [.agg [.str r.key,.str r.dag.name,tasksV r.dag.tasks,.int .i64 r.is,.fsl .loose 5 (mv sttV r.states)]]) ∧
          (∃ st,σ=[(3,.fsl st 2 (mv prV (putsP base (runsPr (w.runs.take j)++(runPr r::sttsPr r i))))),(7,.ptr n 0 0),(46,.fsl .loose 5 (mv rnV w.runs)),(47,.int .i64 (w.runs.length:Int)),(48,.int .i64 (j:Int)),(70,.fsl .loose 5 (mv sttV r.states)),(71,.int .i64 (r.states.length:Int)),(72,.int .i64 (i:Int))]))
          ⟨Nat.le_refl _,(by simp (disch:=omega) only [upd_eq,upd_ne,wo_0,wo_1,wo_2]),.loose,rfl⟩ ?_
        clear hwt e5
        clear st m
        rintro T2 i σ ⟨n2,m⟩ hii ⟨hn2,b0,st,rfl⟩ hN2 hX2 hR2
        simp only at hn2 b0
        by_cases hi:i < r.states.length
        · obtain ⟨s,hs⟩:∃ s,s=r.states[i]:=⟨_,rfl⟩
          have hsm:s∈r.states:=hs ▸ List.getElem_mem hi
          have hstd:=hrr.stands s hsm
          have hsk:=sttsPr_succ r i hi
          rw [← hs] at hsk
          have htp:=ref_stput s (by have:=(standsS_iff s).1 hstd; omega) (i64_of s hstd)
          have p2:=putS_len i 1
          have hpl3:=putsP_len (runsPr (w.runs.take j)++(runPr r::sttsPr r i)) base
          simp only [List.length_append,List.length_cons,sttsPr_len] at hpl3
          have hwt:=with_st st (putsP base (runsPr (w.runs.take j)++(runPr r::sttsPr r i))) (([116]++r.key)++(putS i 1).1) (stBytes s) (by omega)
          have e5:withP (([116]++r.key)++(putS i 1).1) (stBytes s) false (putsP base (runsPr (w.runs.take j)++(runPr r::sttsPr r i)))=putsP base (runsPr (w.runs.take j)++(runPr r::sttsPr r (i+1))):=by
            rw [hsk,show runsPr (w.runs.take j)++(runPr r::(sttsPr r i++[sttPr r i s]))=(runsPr (w.runs.take j)++(runPr r::sttsPr r i))++[sttPr r i s] by simp,putsP_snoc]; rfl
          rw [e5] at hwt
          have m2:n≠n2:=by omega
          simp (maxSteps:=1000000) (disch:=omega) only [rg,gD,simprocAttr,show (i:Int) < r.states.length by omega,mv_get hi,← hs,Int.toNat_natCast,sttV,b0]
          refine ⟨by omega, ?_⟩
          refine ⟨_,ref21_number i 1 (by omega), ?_⟩
          simp (maxSteps:=1000000) (disch:=omega) only [rg,gD,simprocAttr]
          refine ⟨by omega, ?_⟩
          unfold sttV at htp
          refine ⟨_,htp, ?_⟩
          simp (maxSteps:=1000000) (disch:=omega) only [rg,gD,simprocAttr]
          simp only [List.append_assoc,List.singleton_append,List.cons_append,List.nil_append] at hwt
          refine ⟨_,hwt, ?_⟩
          simp (maxSteps:=1000000) (disch:=omega) only [rg,gD,simprocAttr]
          exact hN2 _ _ hi ⟨by show n+1≤n2+1; omega,(by simp (disch:=omega) only [upd_eq,upd_ne,wo_0,wo_1,wo_2,b0]),.loose,rfl⟩
        · obtain rfl:i=r.states.length:=by omega
          simp (maxSteps:=1000000) (disch:=omega) only [rg,gD,simprocAttr,Int.lt_irrefl]
          refine hX2 _ _ _ ?_
          simp (maxSteps:=1000000) (disch:=omega) only [rg,gD,simprocAttr]
          refine x_frz0 ?_
          simp (maxSteps:=1000000) (disch:=omega) only [rg,gD,simprocAttr]
          refine hN _ _ hj ⟨st, ?_⟩
          rw [htk]; rfl
      · simp (maxSteps:=1000000) (disch:=omega) only [rg,gD,simprocAttr,show ¬ (j:Int) < w.runs.length by omega]
        refine hX _ _ _ ?_
        simp (maxSteps:=1000000) (disch:=omega) only [rg,gD,simprocAttr]
        obtain rfl:j=w.runs.length:=by omega
        rw [List.take_length]
        refine x_frz0 ?_
        simp (maxSteps:=1000000) (disch:=omega) only [rg,gD,simprocAttr]
        (refine fin_x rfl ?_ ?_<;>simp [pack,lo,loL,V.closed,closedL,mv_closed,prsV,prV_closed,mv_lo prV_lo])
end
def c25:C :=
  (.seq
 (.reg false [p (.box 4 (.v 0)),
 p (.alloc 4 (.agg [.int .i64 0,.int .i64 0,.fsl .nil 2 [],.fsl .nil 5 []]))] [(1,.r 1),(2,.r 0)])
 (.seq
 (.reg true [p (.fad 2 (.v 1)),
 p (.load (none) (.r 0)),
 p (.fad 2 (.v 1)),
 p (.load (none) (.r 0)),
 p (.len false (.r 0)),
 p (.mnx false (.r 0) [.k (.int .i64 20)]),
 p (.slc 2 (.r 4) none (some (.r 0)) none),
 p (.fad 3 (.v 1)),
 p (.load (none) (.r 0)),
 p (.fad 3 (.v 1)),
 p (.load (none) (.r 0)),
 p (.len false (.r 0)),
 p (.mnx false (.r 0) [.k (.int .i64 70)]),
 p (.slc 5 (.r 4) none (some (.r 0)) none),
 p (.fad 2 (.v 1)),
 ⟨.store (none) (.r 0) (.r 8),none,[1]⟩,
 p (.fad 3 (.v 1)),
 p (.store (none) (.r 0) (.r 3))] [(1,.v 1),(2,.v 2)])
 (.seq
 (.seq
 (.reg false [p (.fad 2 (.v 1)),
 p (.load (none) (.r 0)),
 p (.len false (.r 0)),
 p (.mov (.k (.int .i64 0)))] [(1,.v 1),(2,.v 2),(24,.r 2),(25,.r 1),(26,.r 0)])
 (.block 0
 (.loop
 (.seq
 (.reg false [p (.bin .lss (.v 26) (.v 25))] [(1,.v 1),(2,.v 2),(24,.v 24),(25,.v 25),(26,.v 26),(27,.r 0)])
 (.seq
 (.cond (.v 27)
 .skip
 (.exit 0))
 (.seq
 (.block 1
 (.seq
 (.reg false [p (.iad 2 (.v 24) (.v 26)),
 p (.load (some 2) (.r 0)),
 p (.alloc 2 (.agg [.str [],.fsl .nil 4 []])),
 p (.store (some 2) (.r 0) (.r 1))] [(1,.v 1),(2,.v 2),(4,.r 1),(24,.v 24),(25,.v 25),(26,.v 26)])
 (.seq
 (.reg false [p (.fad 1 (.v 4)),
 p (.load (none) (.r 0)),
 p (.len false (.r 0)),
 p (.bin .gtr (.r 0) (.k (.int .i64 20)))] [(1,.v 1),(2,.v 2),(24,.v 24),(25,.v 25),(26,.v 26),(33,.r 0)])
 (.cond (.v 33)
 (.seq
 (.reg false [p (.build [.int .i64 0,.int .i64 0,.fsl .nil 2 [],.fsl .nil 5 []] []),
 p (.store (some 4) (.v 2) (.r 0))] [(2,.v 2)])
 .ret)
 .skip))))
 (.reg false [p (.bin .add (.v 26) (.k (.int .i64 1))),
 p (.mov (.r 0))] [(1,.v 1),(2,.v 2),(24,.v 24),(25,.v 25),(26,.r 0)])))))))
 (.frz
 (.seq
 (.seq
 (.reg false [p (.fad 3 (.v 1)),
 p (.load (none) (.r 0)),
 p (.len false (.r 0)),
 p (.mov (.k (.int .i64 0)))] [(1,.v 1),(2,.v 2),(37,.r 2),(38,.r 1),(39,.r 0)])
 (.block 2
 (.loop
 (.seq
 (.reg false [p (.bin .lss (.v 39) (.v 38))] [(1,.v 1),(2,.v 2),(37,.v 37),(38,.v 38),(39,.v 39),(40,.r 0)])
 (.seq
 (.cond (.v 40)
 .skip
 (.exit 2))
 (.seq
 (.block 3
 (.seq
 (.reg false [p (.iad 5 (.v 37) (.v 39)),
 p (.load (some 5) (.r 0)),
 p (.alloc 5 (.agg [.str [],.str [],.fsl .nil 4 [],.int .i64 0,.fsl .nil 5 []])),
 p (.store (some 5) (.r 0) (.r 1))] [(1,.v 1),(2,.v 2),(6,.r 1),(37,.v 37),(38,.v 38),(39,.v 39)])
 (.seq
 (.reg false [p (.fad 4 (.v 6)),
 p (.load (none) (.r 0)),
 p (.len false (.r 0)),
 p (.bin .gtr (.r 0) (.k (.int .i64 20))),
 p (.mov (.r 0)),
 ⟨.fad 1 (.v 6),some (0,false),[]⟩,
 ⟨.fad 1 (.r 0),some (1,false),[]⟩,
 ⟨.load (none) (.r 0),some (2,false),[]⟩,
 ⟨.len false (.r 0),some (3,false),[]⟩,
 ⟨.bin .gtr (.r 0) (.k (.int .i64 20)),some (4,false),[]⟩,
 p (.pick (.r 5) (.k (.bool true)) (.r 0))] [(1,.v 1),(2,.v 2),(37,.v 37),(38,.v 38),(39,.v 39),(53,.r 0)])
 (.cond (.v 53)
 (.seq
 (.reg false [p (.build [.int .i64 0,.int .i64 0,.fsl .nil 2 [],.fsl .nil 5 []] []),
 p (.store (some 4) (.v 2) (.r 0))] [(2,.v 2)])
 .ret)
 .skip))))
 (.reg false [p (.bin .add (.v 39) (.k (.int .i64 1))),
 p (.mov (.r 0))] [(1,.v 1),(2,.v 2),(37,.v 37),(38,.v 38),(39,.r 0)])))))))
 (.frz
 (.seq
 (.reg false [p (.load (some 4) (.v 1)),
 p (.store (some 4) (.v 2) (.r 0))] [(2,.v 2)])
 .ret)))))))
def r25:List RV:=[.c 2 (some 4)]
theorem en25:EnP Tryz.prog 25 57 c25 r25:=mkEnP (by kernel_rfl) Tryz.func25 (by kernel_rfl) ⟨_,rfl,by kernel_rfl,by kernel_rfl⟩
def c27:C :=
  (.seq
 (.reg false [p (.mov (.k (.bool false)))] [])
 (.seq
 (.reg false [p (.build [.int .i64 0,.int .i64 0,.fsl .nil 2 [],.fsl .nil 5 []] [(0,1,.k (.int .i64 5))]),
 p (.call true (.k (.fn 26 [] [])) [.r 0]),
 p (.mov (.r 0)),
 p (.ext (.r 0) 0),
 p (.ext (.r 1) 1),
 p (.mov (.r 1)),
 p (.mov (.r 1))] [(1,.r 1),(2,.r 0)])
 (.seq
 (.reg false [p (.mov (.v 2)),
 p (.bin .eql (.r 0) (.k (.int .i64 0))),
 p (.mov (.r 0)),
 ⟨.mov (.v 1),some (0,true),[]⟩,
 ⟨.len false (.r 0),some (1,true),[]⟩,
 ⟨.bin .eql (.r 0) (.k (.int .i64 1)),some (2,true),[]⟩,
 p (.pick (.r 3) (.r 0) (.k (.bool false))),
 p (.mov (.r 0)),
 ⟨.mov (.v 1),some (0,true),[]⟩,
 ⟨.iad 2 (.r 0) (.k (.int .i64 0)),some (1,true),[]⟩,
 ⟨.fad 0 (.r 0),some (2,true),[]⟩,
 ⟨.load (none) (.r 0),some (3,true),[]⟩,
 ⟨.bin .eql (.r 0) (.k (.str [109])),some (4,true),[]⟩,
 p (.pick (.r 5) (.r 0) (.k (.bool false))),
 p (.mov (.r 0))] [(0,.r 0)])
 .ret)))
def r27:List RV:=[.t 0]
theorem en27:EnP Tryz.prog 27 22 c27 r27:=mkEnP (by kernel_rfl) Tryz.func27 (by kernel_rfl) ⟨_,rfl,by kernel_rfl,by kernel_rfl⟩
def c9:C :=
  (.seq
 (.reg false [p (.box 4 (.v 0)),
 p (.mov (.k (.bool false)))] [(1,.r 1)])
 (.seq
 (.reg false [p (.load (some 4) (.v 1)),
 p (.call true (.k (.fn 25 [] [])) [.r 0]),
 p (.store (some 4) (.v 1) (.r 0))] [(1,.v 1)])
 (.seq
 (.reg false [p (.load (some 4) (.v 1)),
 p (.call true (.k (.fn 26 [] [])) [.r 0]),
 p (.mov (.r 0)),
 p (.ext (.r 0) 0),
 p (.ext (.r 1) 1),
 p (.mov (.r 1)),
 p (.mov (.r 1))] [(1,.v 1),(3,.r 1),(4,.r 0)])
 (.seq
 (.seq
 (.reg false [p (.load (some 4) (.v 1)),
 p (.call true (.k (.fn 18 [] [])) [.r 0]),
 p (.un .not (.r 0))] [(1,.v 1),(3,.v 3),(4,.v 4),(14,.r 0)])
 (.cond (.v 14)
 (.seq
 (.reg false [p (.call true (.k (.fn 27 [] [])) []),
 p (.mov (.r 0)),
 ⟨.mov (.v 4),some (0,true),[]⟩,
 ⟨.bin .eql (.r 0) (.k (.int .i64 1)),some (1,true),[]⟩,
 p (.pick (.r 2) (.r 0) (.k (.bool false))),
 p (.mov (.r 0)),
 ⟨.mov (.v 3),some (0,true),[]⟩,
 ⟨.len false (.r 0),some (1,true),[]⟩,
 ⟨.bin .eql (.r 0) (.k (.int .i64 0)),some (2,true),[]⟩,
 p (.pick (.r 3) (.r 0) (.k (.bool false))),
 p (.mov (.r 0))] [(2,.r 0)])
 .ret)
 .skip))
 (.seq
 (.reg false [p (.call true (.k (.fn 27 [] [])) []),
 p (.mov (.r 0)),
 ⟨.mov (.v 4),some (0,true),[]⟩,
 ⟨.bin .eql (.r 0) (.k (.int .i64 0)),some (1,true),[]⟩,
 p (.pick (.r 2) (.r 0) (.k (.bool false))),
 p (.mov (.r 0)),
 ⟨.mov (.v 3),some (0,true),[]⟩,
 ⟨.load (some 4) (.v 1),some (1,true),[]⟩,
 ⟨.call true (.k (.fn 29 [] [])) [.r 0],some (2,true),[]⟩,
 ⟨.call true (.k (.fn 28 [] [])) [.r 2,.r 0],some (3,true),[]⟩,
 p (.pick (.r 4) (.r 0) (.k (.bool false))),
 p (.mov (.r 0))] [(2,.r 0)])
 .ret)))))
theorem law_few21 (w:Wd) (h:WdA w):PCall Tryz.prog 25 [wdV w] (wdV (fewS w)):=by
  refine en25 (by simp) (by simp [closedL,wdV_closed]) ?_
  have h1:=h.dags
  have h2:=h.runs
  have e1:(cutW w).dags=w.dags.take 20:=rfl
  have e2:(cutW w).runs=w.runs.take 70:=rfl
  have d1:List.take (min (w.dags.length:Int) 20).toNat (mv dagV w.dags)=mv dagV (cutW w).dags:=by
    rw [mv_take,e1]; congr 1
    by_cases c:w.dags.length≤20
    · rw [List.take_of_length_le (by omega),List.take_of_length_le c]
    · rw [show (min (w.dags.length:Int) 20).toNat=20 by omega]
  have r1:List.take (min (w.runs.length:Int) 70).toNat (mv rnV w.runs)=mv rnV (cutW w).runs:=by
    rw [mv_take,e2]; congr 1
    by_cases c:w.runs.length≤70
    · rw [List.take_of_length_le (by omega),List.take_of_length_le c]
    · rw [show (min (w.runs.length:Int) 70).toNat=70 by omega]
  have sl:∀ a b,slSt .loose a b none=.loose:=fun _ _ => rfl
  have hD:(cutW w).dags.length≤20:=by rw [e1]; simp; omega
  have hR:(cutW w).runs.length≤70:=by rw [e2]; simp; omega
  have hfew:fewS w=if (cutW w).dags.any bigD=true then zW else if (cutW w).runs.any bigR=true then zW else cutW w:=rfl
  have hcut:wdV (cutW w)=V.agg [V.int .i64 w.now,V.int .i64 w.token,V.fsl .loose 2 (mv dagV (cutW w).dags),V.fsl .loose 5 (mv rnV (cutW w).runs)]:=rfl
  generalize (cutW w).dags=D at d1 hD hfew hcut
  generalize (cutW w).runs=U at r1 hR hfew hcut
  simp (maxSteps:=1000000) (disch:=omega) only [rg,gD,simprocAttr,c25,wdV,mv_len,d1,r1,sl]
  refine ⟨⟨by omega,by omega,by omega⟩,⟨by omega,by omega,by omega⟩,by simp [compat,disj,nthL], ?_⟩
  refine x_it D.length (fun k σ H => 2≤H.n∧H.m 0=some (.arr 4 [wdV (cutW w)])∧H.m 1=some (.arr 4 [V.agg [V.int .i64 0,V.int .i64 0,V.fsl .nil 2 [],V.fsl .nil 5 []]])∧(D.any bigD=(D.drop k).any bigD) ∧
    σ=[(1,.ptr 0 0 0),(2,.ptr 1 0 0),(24,.fsl .loose 2 (mv dagV D)),(25,.int .i64 (D.length:Int)),(26,.int .i64 (k:Int))]) ⟨Nat.le_refl 2,by rw [hcut]; exact (by simp (disch:=omega) only [upd_eq,upd_ne,wo_0,wo_1,wo_2]),(by simp (disch:=omega) only [upd_eq,upd_ne,wo_0,wo_1,wo_2]),rfl,by rfl⟩ ?_
  rintro T k σ ⟨n,m⟩ hkk ⟨hn,e0,f1,hs,rfl⟩ hN hX hR'
  simp only at hn e0 f1
  rw [hcut] at e0
  by_cases hk:k < D.length
  · rw [any_drop hk] at hs
    by_cases c:20 < D[k].tasks.length
    · have hb:bigD D[k]=true:=by simp [bigD,c]
      rw [hb,Bool.true_or] at hs
      have hres:fewS w=zW:=by rw [hfew,if_pos hs]
      simp (maxSteps:=1000000) (disch:=omega) only [rg,gD,simprocAttr,show (k:Int) < D.length by omega,mv_get hk,getC_dags,Int.toNat_natCast,dagV,tasksV,mv_len,show (20:Int) < D[k].tasks.length by omega,f1]
      refine hR' _ _ ?_
      refine fin_x (by simp (disch:=omega) only [r25,resE,find,loadO,upd_eq,upd_ne,reduceIte,Nat.reduceEqDiff]; rfl) ?_ ?_<;>simp [pack,lo,loL,V.closed,closedL,mv_closed,wdV,zW,mv_nil,mv_lo dagV_lo,mv_lo rnV_lo,mv_closed dagV_closed,rnV_closed,hres]
    · have hb:bigD D[k]=false:=by simp [bigD]; omega
      rw [hb,Bool.false_or] at hs
      simp (maxSteps:=1000000) (disch:=omega) only [rg,gD,simprocAttr,show (k:Int) < D.length by omega,mv_get hk,getC_dags,Int.toNat_natCast,dagV,tasksV,mv_len,show ¬ (20:Int) < D[k].tasks.length by omega,f1]
      exact hN _ _ hk ⟨by simp only []; omega,(by simp (disch:=omega) only [upd_eq,upd_ne,wo_0,wo_1,wo_2,e0,hcut]),(by simp (disch:=omega) only [upd_eq,upd_ne,wo_0,wo_1,wo_2,f1]),hs,rfl⟩
  · obtain rfl:k=D.length:=by omega
    rw [List.drop_length] at hs
    have hs':¬ D.any bigD=true:=by rw [hs]; simp
    rw [if_neg hs'] at hfew
    simp (maxSteps:=1000000) (disch:=omega) only [rg,gD,simprocAttr,Int.lt_irrefl]
    refine hX _ _ _ ?_
    simp (maxSteps:=1000000) (disch:=omega) only [rg,gD,simprocAttr]
    refine x_frz0 ?_
    simp (maxSteps:=1000000) (disch:=omega) only [rg,gD,simprocAttr,e0,mv_len]
    refine x_it U.length (fun k σ H => 2≤H.n∧H.m 0=some (.arr 4 [wdV (cutW w)])∧H.m 1=some (.arr 4 [V.agg [V.int .i64 0,V.int .i64 0,V.fsl .nil 2 [],V.fsl .nil 5 []]])∧(U.any bigR=(U.drop k).any bigR) ∧
      σ=[(1,.ptr 0 0 0),(2,.ptr 1 0 0),(37,.fsl .loose 5 (mv rnV U)),(38,.int .i64 (U.length:Int)),(39,.int .i64 (k:Int))]) ⟨hn,by rw [hcut]; exact e0,f1,rfl,by rfl⟩ ?_
    clear hN hX hR' hs T
    rintro T k σ ⟨n,m⟩ hkk ⟨hn,e0,f1,hs,rfl⟩ hN hX hR'
    simp only at hn e0 f1
    rw [hcut] at e0
    by_cases hk:k < U.length
    · rw [any_drop hk] at hs
      by_cases c1:20 < U[k].states.length
      · have hb:bigR U[k]=true:=by simp [bigR,c1]
        rw [hb,Bool.true_or] at hs
        have hres:fewS w=zW:=by rw [hfew,if_pos hs]
        simp (maxSteps:=1000000) (disch:=omega) only [rg,gD,simprocAttr,show (k:Int) < U.length by omega,mv_get hk,getC_runs,Int.toNat_natCast,rnV,sttsV,tasksV,mv_len,show (20:Int) < U[k].states.length by omega,f1]
        refine hR' _ _ ?_
        refine fin_x (by simp (disch:=omega) only [r25,resE,find,loadO,upd_eq,upd_ne,reduceIte,Nat.reduceEqDiff]; rfl) ?_ ?_<;>simp [pack,lo,loL,V.closed,closedL,mv_closed,wdV,zW,mv_nil,mv_lo dagV_lo,mv_lo rnV_lo,mv_closed dagV_closed,rnV_closed,hres]
      by_cases c2:20 < U[k].dag.tasks.length
      · have hb:bigR U[k]=true:=by simp [bigR,c2]
        rw [hb,Bool.true_or] at hs
        have hres:fewS w=zW:=by rw [hfew,if_pos hs]
        simp (maxSteps:=1000000) (disch:=omega) only [rg,gD,simprocAttr,show (k:Int) < U.length by omega,mv_get hk,getC_runs,Int.toNat_natCast,rnV,sttsV,tasksV,mv_len,show ¬ (20:Int) < U[k].states.length by omega,show (20:Int) < U[k].dag.tasks.length by omega,f1]
        refine hR' _ _ ?_
        refine fin_x (by simp (disch:=omega) only [r25,resE,find,loadO,upd_eq,upd_ne,reduceIte,Nat.reduceEqDiff]; rfl) ?_ ?_<;>simp [pack,lo,loL,V.closed,closedL,mv_closed,wdV,zW,mv_nil,mv_lo dagV_lo,mv_lo rnV_lo,mv_closed dagV_closed,rnV_closed,hres]
      have hb:bigR U[k]=false:=by simp [bigR]; omega
      rw [hb,Bool.false_or] at hs
      simp (maxSteps:=1000000) (disch:=omega) only [rg,gD,simprocAttr,show (k:Int) < U.length by omega,mv_get hk,getC_runs,Int.toNat_natCast,rnV,sttsV,tasksV,mv_len,show ¬ (20:Int) < U[k].states.length by omega,show ¬ (20:Int) < U[k].dag.tasks.length by omega,f1]
      exact hN _ _ hk ⟨by simp only []; omega,(by simp (disch:=omega) only [upd_eq,upd_ne,wo_0,wo_1,wo_2,e0,hcut]),(by simp (disch:=omega) only [upd_eq,upd_ne,wo_0,wo_1,wo_2,f1]),hs,rfl⟩
    · obtain rfl:k=U.length:=by omega
      rw [List.drop_length] at hs
      have hs':¬ U.any bigR=true:=by rw [hs]; simp
      rw [if_neg hs'] at hfew
      simp (maxSteps:=1000000) (disch:=omega) only [rg,gD,simprocAttr,Int.lt_irrefl]
      refine hX _ _ _ ?_
      simp (maxSteps:=1000000) (disch:=omega) only [rg,gD,simprocAttr]
      refine x_frz0 ?_
      simp (maxSteps:=1000000) (disch:=omega) only [rg,gD,simprocAttr,e0,f1]
      have hfw:V.agg [V.int .i64 (fewS w).now,V.int .i64 (fewS w).token,V.fsl .loose 2 (mv dagV (fewS w).dags),V.fsl .loose 5 (mv rnV (fewS w).runs)]=wdV (fewS w):=rfl
      rw [hfw,hfew,hcut]
      refine fin_x (by simp (disch:=omega) only [r25,resE,find,loadO,upd_eq,upd_ne,reduceIte,Nat.reduceEqDiff]; rfl) ?_ ?_<;>simp [pack,lo,loL,V.closed,closedL,mv_closed,wdV,zW,mv_nil,mv_lo dagV_lo,mv_lo rnV_lo,mv_closed dagV_closed,rnV_closed]
theorem eqF_pr (p q:Pr):eqF [1,1] [.str p.1,.str p.2] [.str q.1,.str q.2]=some (decide (p=q)):=by
  obtain ⟨a,b⟩:=p; obtain ⟨c,d⟩:=q
  simp [eqF,Prod.mk.injEq]
theorem like8 (st st':St) (a b:List Pr) (ha:a.length≤100000) (hb:b.length≤100000):PCall Tryz.prog 28 [.fsl st 2 (mv prV a),.fsl st' 2 (mv prV b)] (.bool (decide (a=b))):=by
  refine en28 (by simp) (by simp [closedL,V.closed,mv_closed prV_closed]) ?_
  simp (maxSteps:=1000000) (disch:=omega) only [rg,gD,simprocAttr,c28,mv_len]
  by_cases c:a.length=b.length
  case neg =>
    have hne:a≠b:=fun e => c (by rw [e])
    simp (maxSteps:=1000000) (disch:=omega) only [rg,gD,simprocAttr,show ¬ (a.length:Int)=b.length by omega]
    (refine fin_x rfl ?_ ?_<;>simp [pack,lo,loL,V.closed,closedL,mv_closed,hne])
  simp (maxSteps:=1000000) (disch:=omega) only [rg,gD,simprocAttr,show (a.length:Int)=b.length by omega]
  refine x_it a.length (fun k σ H => a.take k=b.take k∧σ=[(0,.fsl st 2 (mv prV a)),(1,.fsl st' 2 (mv prV b)),(12,.int .i64 (a.length:Int)),(13,.int .i64 (k:Int))]) ⟨rfl,by simp [c]⟩ ?_
  rintro T k σ ⟨n,m⟩ hkk ⟨ht,rfl⟩ hN hX hR
  by_cases hk:k < a.length
  · have hk2:k < b.length:=by omega
    have e:(a.take (k+1)=b.take (k+1))↔a[k]=b[k]:=by
      rw [List.take_succ_eq_append_getElem hk,List.take_succ_eq_append_getElem hk2,ht]
      exact ⟨fun h => by simpa using List.append_cancel_left h,fun h => by rw [h]⟩
    by_cases h:a[k]=b[k]
    · simp (maxSteps:=1000000) (disch:=omega) only [rg,gD,simprocAttr,show (k:Int) < a.length by omega,mv_get hk,mv_get hk2,Int.toNat_natCast,getC_pr,prV,eqF_pr,decide_eq_true h]
      exact hN _ _ hk ⟨e.2 h,rfl⟩
    · have hne:a≠b:=fun e => h (by simp [e])
      simp (maxSteps:=1000000) (disch:=omega) only [rg,gD,simprocAttr,show (k:Int) < a.length by omega,mv_get hk,mv_get hk2,Int.toNat_natCast,getC_pr,prV,eqF_pr,decide_eq_false h]
      refine hR _ _ ?_
      simp (maxSteps:=1000000) (disch:=omega) only [rg,gD,simprocAttr]
      (refine fin_x rfl ?_ ?_<;>simp [pack,lo,loL,V.closed,closedL,mv_closed,hne])
  · obtain rfl:k=a.length:=by omega
    have hab:a=b:=by rw [List.take_length,c,List.take_length] at ht; exact ht
    simp (maxSteps:=1000000) (disch:=omega) only [rg,gD,simprocAttr,Int.lt_irrefl]
    refine hX _ _ _ ?_
    simp (maxSteps:=1000000) (disch:=omega) only [rg,gD,simprocAttr]
    refine x_frz0 ?_
    simp (maxSteps:=1000000) (disch:=omega) only [rg,gD,simprocAttr]
    (refine fin_x rfl ?_ ?_<;>simp [pack,lo,loL,V.closed,closedL,mv_closed,hab])
section
def w5W:Wd:=⟨5,0,[],[]⟩
theorem w5_WR:WR w5W:=by
  refine ⟨by simp [w5W,MT],by simp [w5W,MT],by simp [w5W],by simp [w5W], ?_, ?_,by simp [w5W],by simp [w5W],by simpa [w5W,toksR] using Tk.nil _⟩
  all_goals (intro i hi; simp [w5W,dagsN,runsN] at hi)
theorem w5_M:WdM w5W:=⟨⟨by simp [w5W],by simp [w5W],by simp [w5W],by simp [w5W]⟩,by simp [w5W]⟩
theorem w5_rows:rowsS w5W=[([109],(putS 5 6).1++(putS 0 6).1)]:=by simp [rowsS,w5W,metaPr,putsP,withP,runsPr]
open Classical in
theorem law_alive21:PCall Tryz.prog 27 [] (.bool true):=by
  refine en27 (by simp) (by simp [closedL]) ?_
  have h1:PCall Tryz.prog 26 [V.agg [.int .i64 5,.int .i64 0,.fsl .nil 2 [],.fsl .nil 5 []]] (.tup [.fsl .loose 2 [prV ([109],(putS 5 6).1++(putS 0 6).1)],.int .i64 0]):=by
    have:=rows_rows w5W w5_M
    rw [if_pos w5_WR,if_pos w5_WR,w5_rows] at this
    exact this.of_eq (by simp [wdV,w5W,loL,lo,mv_nil])
  simp (maxSteps:=1000000) (disch:=omega) only [rg,gD,simprocAttr,c27]
  refine ⟨_,h1, ?_⟩
  simp (maxSteps:=1000000) (disch:=omega) only [rg,gD,simprocAttr,prV]
  (refine fin_x rfl ?_ ?_<;>simp [pack,lo,loL,V.closed,closedL,mv_closed])
end
structure Chg where
  key:Str
  val:Str
  gone:Bool
  deriving DecidableEq
def chV (c:Chg):V:=.agg [.str c.key,.str c.val,.bool c.gone]
theorem chV_closed (c:Chg):(chV c).closed=true:=by simp [chV,V.closed,closedL]
theorem chV_lo (c:Chg):lo (chV c)=chV c:=by simp [chV,lo,loL]
def chsV (l:List Chg):V:=.fsl .loose 3 (mv chV l)
def goneC (p:Pr):Chg:=⟨p.1,[],true⟩
def setC' (p:Pr):Chg:=⟨p.1,p.2,false⟩
def diffS:List Pr→List Pr→List Chg
  | [],[] => []
  | p::a,[] => goneC p::diffS a []
  | [],q::b => setC' q::diffS [] b
  | p::a,q::b => if ltS p.1 q.1=true then goneC p::diffS a (q::b) else if ltS q.1 p.1=true then setC' q::diffS (p::a) b else (if p.2≠q.2 then [setC' q] else [])++diffS a b
termination_by a b => a.length+b.length
theorem diff_nil:diffS [] []=[]:=by rw [diffS]
theorem diff_l (p:Pr) (a:List Pr):diffS (p::a) []=goneC p::diffS a []:=by rw [diffS]
theorem diff_r (q:Pr) (b:List Pr):diffS [] (q::b)=setC' q::diffS [] b:=by rw [diffS]
theorem diff_c (p q:Pr) (a b:List Pr):diffS (p::a) (q::b)=if ltS p.1 q.1=true then goneC p::diffS a (q::b) else if ltS q.1 p.1=true then setC' q::diffS (p::a) b else (if p.2≠q.2 then [setC' q] else [])++diffS a b:=by rw [diffS]
theorem diff_len:∀ (a b:List Pr),(diffS a b).length≤a.length+b.length
  | [],[] => by rw [diff_nil]; simp
  | p::a,[] => by
    have:=diff_len a []
    rw [diff_l]; simp at this ⊢; omega
  | [],q::b => by
    have:=diff_len [] b
    rw [diff_r]; simp at this ⊢; omega
  | p::a,q::b => by
    rw [diff_c]
    have h1:=diff_len a (q::b)
    have h2:=diff_len (p::a) b
    have h3:=diff_len a b
    simp only [List.length_cons] at h1 h2
    split
    · simp; omega
    · split
      · simp; omega
      · have:(if p.2≠q.2 then [setC' q] else []).length≤1:=by split<;>simp
        simp only [List.length_append,List.length_cons]; omega
termination_by a b => a.length+b.length
def changeP (l:List Pr) (c:Chg):List Pr:=if c.gone=true then l.filter (fun p => decide (p.1≠c.key)) else withP c.key c.val false l
theorem withP_pre (k v:Str):∀ {pre rest:List Pr},(∀ p∈pre,ltS p.1 k=true)→withP k v false (pre++rest)=pre++withP k v false rest
  | [],_,_ => rfl
  | p::pre,rest,h => by
    have h1:=h p (by simp)
    have hne:=lt_ne h1
    simp only [List.cons_append,withP_cons,h1,Bool.true_eq_false,and_false,if_false,if_pos hne,List.nil_append,List.singleton_append,Bool.not_true,Bool.or_false]
    rw [withP_pre k v fun p hp => h p (by simp [hp])]
theorem withP_new {k v:Str} {l:List Pr} (h:∀ p∈l,ltS k p.1=true):withP k v false l=(k,v)::l:=by
  cases l with
  | nil => rfl
  | cons p l =>
    have h1:=h p (by simp)
    have hne:p.1≠k:=(lt_ne h1).symm
    have hf:l.filter (fun p => decide (p.1≠k))=l:=List.filter_eq_self.2 fun q hq => by simpa using (lt_ne (h q (by simp [hq]))).symm
    simp only [withP_cons,lt_asy h1,and_self,if_true,if_pos hne,Bool.not_false,Bool.or_true,withP_true,hf]
    rfl
theorem withP_old {v:Str} {p:Pr} {l:List Pr} (h:∀ q∈l,ltS p.1 q.1=true):withP p.1 v false (p::l)=(p.1,v)::l:=by
  have hf:l.filter (fun q => decide (q.1≠p.1))=l:=List.filter_eq_self.2 fun q hq => by simpa using (lt_ne (h q hq)).symm
  simp only [withP_cons,lt_irr,and_self,if_true,ne_eq,not_true,if_false,Bool.not_false,Bool.or_true,withP_true,List.append_nil]
  rw [show l.filter (fun q => decide ¬ q.1=p.1)=l from hf]; rfl
theorem srt_pre {pre:List Pr} {q:Pr} {b:List Pr} (h:Srt (pre++q::b)):(∀ p∈pre,ltS p.1 q.1=true)∧(∀ p∈b,ltS q.1 p.1=true):=by
  obtain ⟨_,h2,h3⟩:=List.pairwise_append.1 h
  exact ⟨fun p hp => h3 p hp q (by simp),fun p hp => (List.pairwise_cons.1 h2).1 p hp⟩
theorem srt_drop {pre:List Pr} {q:Pr} {b:List Pr} (h:Srt (pre++q::b)):Srt (pre++b):=h.sublist (List.Sublist.append_left (List.sublist_cons_self q b) pre)
theorem srt_ins {pre x:List Pr} {q:Pr} (h:Srt (pre++x)) (h1:∀ p∈pre,ltS p.1 q.1=true) (h2:∀ p∈x,ltS q.1 p.1=true):Srt ((pre++[q])++x):=by
  obtain ⟨a,b,c⟩:=List.pairwise_append.1 h
  rw [List.append_assoc]
  refine List.pairwise_append.2 ⟨a,List.pairwise_cons.2 ⟨h2,b⟩,fun p hp r hr => ?_⟩
  rcases List.mem_cons.1 hr with rfl | hr
  · exact h1 p hp
  · exact c p hp r hr
theorem gone_pre {pre a:List Pr} {p:Pr} (h:Srt (pre++p::a)):changeP (pre++p::a) (goneC p)=pre++a:=by
  obtain ⟨h1,h2⟩:=srt_pre h
  unfold changeP goneC
  simp only [if_true,List.filter_append,List.filter_cons]
  rw [List.filter_eq_self.2 fun q hq => by simpa using lt_ne (h1 q hq),List.filter_eq_self.2 fun q hq => by simpa using (lt_ne (h2 q hq)).symm]
  simp
theorem diff_makes:∀ (x y pre:List Pr),Srt (pre++x)→Srt (pre++y)→(diffS x y).foldl changeP (pre++x)=pre++y
  | [],[],pre,_,_ => by rw [diff_nil]; rfl
  | p::a,[],pre,hx,hy => by
    rw [diff_l,List.foldl_cons,gone_pre hx]
    exact diff_makes a [] pre (srt_drop hx) hy
  | [],q::b,pre,hx,hy => by
    obtain ⟨h1,h2⟩:=srt_pre hy
    rw [diff_r,List.foldl_cons]
    have e:changeP (pre++[]) (setC' q)=(pre++[q])++[]:=by
      show withP q.1 q.2 false (pre++[])=_
      rw [withP_pre q.1 q.2 h1]; simp [withP]
    rw [e,diff_makes [] b (pre++[q]) (by simpa using srt_ins (x:=[]) (by simpa using hx) h1 (by simp)) (by simpa using hy)]
    simp
  | p::a,q::b,pre,hx,hy => by
    obtain ⟨h1,h2⟩:=srt_pre hy
    obtain ⟨g1,g2⟩:=srt_pre hx
    rw [diff_c]
    split
    · rw [List.foldl_cons,gone_pre hx]
      exact diff_makes a (q::b) pre (srt_drop hx) hy
    · rename_i c1
      split
      · rename_i c2
        have hall:∀ r∈p::a,ltS q.1 r.1=true:=fun r hr => by
          rcases List.mem_cons.1 hr with rfl | hr
          · exact c2
          · exact lt_trans' c2 (g2 r hr)
        have e:changeP (pre++p::a) (setC' q)=(pre++[q])++p::a:=by
          show withP q.1 q.2 false (pre++p::a)=_
          rw [withP_pre q.1 q.2 h1,withP_new hall]; simp
        rw [List.foldl_cons,e,diff_makes (p::a) b (pre++[q]) (srt_ins hx h1 hall) (by simpa using hy)]
        simp
      · rename_i c2
        have hk:p.1=q.1:=by
          rcases lt_tri p.1 q.1 with h | h | h
          · exact absurd h c1
          · exact h
          · exact absurd h c2
        have hx2:Srt ((pre++[q])++a):=srt_ins (srt_drop hx) h1 (fun r hr => hk ▸ g2 r hr)
        have key:(diffS a b).foldl changeP ((pre++[q])++a)=pre++q::b:=by
          rw [diff_makes a b (pre++[q]) hx2 (by simpa using hy)]; simp
        by_cases hv:p.2=q.2
        · have hpq:p=q:=Prod.ext hk hv
          rw [if_neg (fun h => h hv),List.nil_append]
          rw [hpq]; simpa using key
        · rw [if_pos hv,List.singleton_append,List.foldl_cons]
          have e:changeP (pre++p::a) (setC' q)=(pre++[q])++a:=by
            show withP q.1 q.2 false (pre++p::a)=_
            rw [withP_pre q.1 q.2 h1,← hk,withP_old g2,hk]; simp
          rw [e]; exact key
termination_by x y => x.length+y.length
def c30:C :=
  (.seq
 (.reg false [p (.box 4 (.v 0)),
 p (.box 4 (.v 1)),
 p (.mov (.k (.fsl .nil 3 []))),
 p (.mov (.k (.int .i64 0)))] [(2,.r 3),(3,.r 2)])
 (.seq
 (.reg false [p (.load (some 4) (.v 2)),
 p (.call true (.k (.fn 26 [] [])) [.r 0]),
 p (.mov (.r 0)),
 p (.ext (.r 0) 0),
 p (.ext (.r 1) 1),
 p (.mov (.r 1)),
 p (.mov (.r 1))] [(3,.v 3),(6,.r 1),(7,.r 0)])
 (.seq
 (.reg false [p (.load (some 4) (.v 3)),
 p (.call true (.k (.fn 26 [] [])) [.r 0]),
 p (.mov (.r 0)),
 p (.ext (.r 0) 0),
 p (.ext (.r 1) 1),
 p (.mov (.r 1)),
 p (.mov (.r 1))] [(6,.v 6),(7,.v 7),(8,.r 1),(9,.r 0)])
 (.seq
 (.seq
 (.reg false [p (.mov (.v 7)),
 p (.bin .neq (.r 0) (.k (.int .i64 0))),
 p (.mov (.r 0)),
 ⟨.mov (.v 9),some (0,false),[]⟩,
 ⟨.bin .neq (.r 0) (.k (.int .i64 0)),some (1,false),[]⟩,
 p (.pick (.r 2) (.k (.bool true)) (.r 0))] [(6,.v 6),(8,.v 8),(26,.r 0)])
 (.cond (.v 26)
 (.seq
 (.reg false [p (.mov (.k (.fsl .nil 3 []))),
 p (.mov (.k (.int .i64 1)))] [(4,.r 1),(5,.r 0)])
 (.frz .ret))
 .skip))
 (.seq
 (.reg false [p (.mov (.k (.fsl .nil 3 [])))] [(6,.v 6),(8,.v 8),(10,.r 0)])
 (.seq
 (.block 0
 (.loop
 (.seq
 (.seq
 (.reg false [p (.mov (.v 6)),
 p (.len false (.r 0)),
 p (.bin .gtr (.r 0) (.k (.int .i64 0))),
 p (.mov (.r 0)),
 ⟨.mov (.v 8),some (0,false),[]⟩,
 ⟨.len false (.r 0),some (1,false),[]⟩,
 ⟨.bin .gtr (.r 0) (.k (.int .i64 0)),some (2,false),[]⟩,
 p (.pick (.r 3) (.k (.bool true)) (.r 0))] [(6,.v 6),(8,.v 8),(10,.v 10),(34,.r 0)])
 (.cond (.v 34)
 .skip
 (.exit 0)))
 (.block 1
 (.block 2
 (.seq
 (.reg true [p (.mov (.v 8)),
 p (.len false (.r 0)),
 p (.bin .eql (.r 0) (.k (.int .i64 0))),
 p (.mov (.r 0)),
 ⟨.mov (.v 6),some (0,false),[]⟩,
 ⟨.len false (.r 0),some (1,false),[]⟩,
 ⟨.bin .gtr (.r 0) (.k (.int .i64 0)),some (2,false),[]⟩,
 ⟨.mov (.r 0),some (3,false),[]⟩,
 ⟨.mov (.v 6),some (0,true),[]⟩,
 ⟨.iad 2 (.r 0) (.k (.int .i64 0)),some (1,true),[]⟩,
 ⟨.fad 0 (.r 0),some (2,true),[]⟩,
 ⟨.load (none) (.r 0),some (3,true),[]⟩,
 ⟨.mov (.v 8),some (4,true),[]⟩,
 ⟨.iad 2 (.r 0) (.k (.int .i64 0)),some (5,true),[]⟩,
 ⟨.fad 0 (.r 0),some (6,true),[]⟩,
 ⟨.load (none) (.r 0),some (7,true),[]⟩,
 ⟨.bin .lss (.r 4) (.r 0),some (8,true),[]⟩,
 ⟨.pick (.r 9) (.r 0) (.k (.bool false)),some (13,false),[]⟩,
 p (.pick (.r 14) (.k (.bool true)) (.r 0)),
 p (.mov (.r 0))] [(6,.v 6),(8,.v 8),(10,.v 10),(60,.r 0)])
 (.cond (.v 60)
 (.seq
 (.reg false [p (.mov (.v 10)),
 p (.mov (.v 6)),
 p (.iad 2 (.r 0) (.k (.int .i64 0))),
 p (.fad 0 (.r 0)),
 p (.load (none) (.r 0)),
 p (.build [.str [],.str [],.bool false] [(0,1,.r 0),(2,1,.k (.bool true))]),
 p (.bsl 3 [.r 0]),
 p (.app 3 40 (.r 6) (.r 0)),
 p (.mov (.r 0))] [(6,.v 6),(8,.v 8),(10,.r 0)])
 (.reg false [p (.mov (.v 6)),
 p (.slc 2 (.r 0) (some (.k (.int .i64 1))) none none),
 p (.mov (.r 0))] [(6,.r 0),(8,.v 8),(10,.v 10)]))
 (.seq
 (.reg true [p (.mov (.v 6)),
 p (.len false (.r 0)),
 p (.bin .eql (.r 0) (.k (.int .i64 0))),
 p (.mov (.r 0)),
 ⟨.mov (.v 8),some (0,false),[]⟩,
 ⟨.iad 2 (.r 0) (.k (.int .i64 0)),some (1,false),[]⟩,
 ⟨.fad 0 (.r 0),some (2,false),[]⟩,
 ⟨.load (none) (.r 0),some (3,false),[]⟩,
 ⟨.mov (.v 6),some (4,false),[]⟩,
 ⟨.iad 2 (.r 0) (.k (.int .i64 0)),some (5,false),[]⟩,
 ⟨.fad 0 (.r 0),some (6,false),[]⟩,
 ⟨.load (none) (.r 0),some (7,false),[]⟩,
 ⟨.bin .lss (.r 4) (.r 0),some (8,false),[]⟩,
 p (.pick (.r 9) (.k (.bool true)) (.r 0)),
 p (.mov (.r 0))] [(6,.v 6),(8,.v 8),(10,.v 10),(90,.r 0)])
 (.cond (.v 90)
 (.seq
 (.reg true [p (.mov (.v 10)),
 p (.mov (.v 8)),
 p (.iad 2 (.r 0) (.k (.int .i64 0))),
 p (.fad 0 (.r 0)),
 p (.load (none) (.r 0)),
 p (.mov (.v 8)),
 p (.iad 2 (.r 0) (.k (.int .i64 0))),
 p (.fad 1 (.r 0)),
 p (.load (none) (.r 0)),
 p (.build [.str [],.str [],.bool false] [(0,1,.r 4),(1,1,.r 0)]),
 p (.bsl 3 [.r 0]),
 p (.app 3 40 (.r 10) (.r 0)),
 p (.mov (.r 0))] [(6,.v 6),(8,.v 8),(10,.r 0)])
 (.reg false [p (.mov (.v 8)),
 p (.slc 2 (.r 0) (some (.k (.int .i64 1))) none none),
 p (.mov (.r 0))] [(6,.v 6),(8,.r 0),(10,.v 10)]))
 (.seq
 (.seq
 (.reg true [p (.mov (.v 6)),
 p (.iad 2 (.r 0) (.k (.int .i64 0))),
 p (.fad 1 (.r 0)),
 p (.load (none) (.r 0)),
 p (.mov (.v 8)),
 p (.iad 2 (.r 0) (.k (.int .i64 0))),
 p (.fad 1 (.r 0)),
 p (.load (none) (.r 0)),
 p (.bin .neq (.r 4) (.r 0))] [(6,.v 6),(8,.v 8),(10,.v 10),(43,.r 0)])
 (.cond (.v 43)
 (.reg true [p (.mov (.v 10)),
 p (.mov (.v 8)),
 p (.iad 2 (.r 0) (.k (.int .i64 0))),
 p (.fad 0 (.r 0)),
 p (.load (none) (.r 0)),
 p (.mov (.v 8)),
 p (.iad 2 (.r 0) (.k (.int .i64 0))),
 p (.fad 1 (.r 0)),
 p (.load (none) (.r 0)),
 p (.build [.str [],.str [],.bool false] [(0,1,.r 4),(1,1,.r 0)]),
 p (.bsl 3 [.r 0]),
 p (.app 3 40 (.r 10) (.r 0)),
 p (.mov (.r 0))] [(6,.v 6),(8,.v 8),(10,.r 0)])
 .skip))
 (.reg true [p (.mov (.v 6)),
 p (.slc 2 (.r 0) (some (.k (.int .i64 1))) none none),
 p (.mov (.v 8)),
 p (.slc 2 (.r 0) (some (.k (.int .i64 1))) none none),
 p (.mov (.r 2)),
 p (.mov (.r 1))] [(6,.r 1),(8,.r 0),(10,.v 10)])))))))))))
 (.frz
 (.seq
 (.reg false [p (.mov (.v 10)),
 p (.mov (.r 0)),
 p (.mov (.k (.int .i64 0)))] [(4,.r 1),(5,.r 0)])
 (.frz .ret)))))))))
def r30:List RV:=[.t 4,.t 5]
theorem en30:EnP Tryz.prog 30 120 c30 r30:=mkEnP (by kernel_rfl) Tryz.func30 (by kernel_rfl) ⟨_,rfl,by kernel_rfl,by kernel_rfl⟩
def c32:C :=
  (.seq
 (.reg false [p (.mov (.k (.fsl .nil 3 [])))] [(0,.v 0),(1,.v 1)])
 (.seq
 (.reg false [p (.bsl 3 []),
 p (.mov (.r 0))] [(0,.v 0),(1,.v 1),(5,.r 0)])
 (.seq
 (.reg false [p (.mov (.k (.int .i64 0)))] [(0,.v 0),(1,.v 1),(5,.v 5),(6,.r 0)])
 (.seq
 (.reg false [p (.mov (.k (.int .i64 0)))] [(0,.v 0),(1,.v 1),(5,.v 5),(6,.v 6),(7,.r 0)])
 (.seq
 (.block 0
 (.loop
 (.seq
 (.seq
 (.reg false [p (.mov (.v 6)),
 p (.mov (.v 0)),
 p (.len false (.r 0)),
 p (.bin .lss (.r 2) (.r 0)),
 p (.mov (.r 0)),
 ⟨.mov (.v 7),some (0,false),[]⟩,
 ⟨.mov (.v 1),some (1,false),[]⟩,
 ⟨.len false (.r 0),some (2,false),[]⟩,
 ⟨.bin .lss (.r 2) (.r 0),some (3,false),[]⟩,
 p (.pick (.r 4) (.k (.bool true)) (.r 0))] [(0,.v 0),(1,.v 1),(5,.v 5),(6,.v 6),(7,.v 7),(18,.r 0)])
 (.cond (.v 18)
 .skip
 (.exit 0)))
 (.block 1
 (.seq
 (.seq
 (.reg true [p (.mov (.v 7)),
 p (.mov (.v 1)),
 p (.len false (.r 0)),
 p (.bin .geq (.r 2) (.r 0)),
 p (.mov (.r 0)),
 ⟨.mov (.v 6),some (0,false),[]⟩,
 ⟨.mov (.v 0),some (1,false),[]⟩,
 ⟨.len false (.r 0),some (2,false),[]⟩,
 ⟨.bin .lss (.r 2) (.r 0),some (3,false),[]⟩,
 ⟨.mov (.r 0),some (4,false),[]⟩,
 ⟨.mov (.v 0),some (0,true),[]⟩,
 ⟨.mov (.v 6),some (1,true),[]⟩,
 ⟨.iad 2 (.r 1) (.r 0),some (2,true),[]⟩,
 ⟨.fad 0 (.r 0),some (3,true),[]⟩,
 ⟨.load (none) (.r 0),some (4,true),[]⟩,
 ⟨.mov (.v 1),some (5,true),[]⟩,
 ⟨.mov (.v 7),some (6,true),[]⟩,
 ⟨.iad 2 (.r 1) (.r 0),some (7,true),[]⟩,
 ⟨.fad 0 (.r 0),some (8,true),[]⟩,
 ⟨.load (none) (.r 0),some (9,true),[]⟩,
 ⟨.bin .lss (.r 5) (.r 0),some (10,true),[]⟩,
 ⟨.pick (.r 11) (.r 0) (.k (.bool false)),some (16,false),[]⟩,
 p (.pick (.r 17) (.k (.bool true)) (.r 0))] [(0,.v 0),(1,.v 1),(5,.v 5),(6,.v 6),(7,.v 7),(41,.r 0)])
 (.cond (.v 41)
 (.seq
 (.reg false [p (.mov (.v 5)),
 p (.mov (.v 0)),
 p (.mov (.v 6)),
 p (.iad 2 (.r 1) (.r 0)),
 p (.fad 0 (.r 0)),
 p (.load (none) (.r 0)),
 p (.build [.str [],.str [],.bool false] [(0,1,.r 0),(2,1,.k (.bool true))]),
 p (.bsl 3 [.r 0]),
 p (.app 3 40 (.r 7) (.r 0)),
 p (.mov (.r 0))] [(0,.v 0),(1,.v 1),(5,.r 0),(6,.v 6),(7,.v 7)])
 (.seq
 (.reg false [p (.mov (.v 6)),
 p (.bin .add (.r 0) (.k (.int .i64 1))),
 p (.mov (.r 0))] [(0,.v 0),(1,.v 1),(5,.v 5),(6,.r 0),(7,.v 7)])
 (.exit 1)))
 .skip))
 (.seq
 (.seq
 (.reg true [p (.mov (.v 6)),
 p (.mov (.v 0)),
 p (.len false (.r 0)),
 p (.bin .geq (.r 2) (.r 0)),
 p (.mov (.r 0)),
 ⟨.mov (.v 1),some (0,false),[]⟩,
 ⟨.mov (.v 7),some (1,false),[]⟩,
 ⟨.iad 2 (.r 1) (.r 0),some (2,false),[]⟩,
 ⟨.fad 0 (.r 0),some (3,false),[]⟩,
 ⟨.load (none) (.r 0),some (4,false),[]⟩,
 ⟨.mov (.v 0),some (5,false),[]⟩,
 ⟨.mov (.v 6),some (6,false),[]⟩,
 ⟨.iad 2 (.r 1) (.r 0),some (7,false),[]⟩,
 ⟨.fad 0 (.r 0),some (8,false),[]⟩,
 ⟨.load (none) (.r 0),some (9,false),[]⟩,
 ⟨.bin .lss (.r 5) (.r 0),some (10,false),[]⟩,
 p (.pick (.r 11) (.k (.bool true)) (.r 0))] [(0,.v 0),(1,.v 1),(5,.v 5),(6,.v 6),(7,.v 7),(69,.r 0)])
 (.cond (.v 69)
 (.seq
 (.reg true [p (.mov (.v 5)),
 p (.mov (.v 1)),
 p (.mov (.v 7)),
 p (.iad 2 (.r 1) (.r 0)),
 p (.fad 0 (.r 0)),
 p (.load (none) (.r 0)),
 p (.mov (.v 1)),
 p (.mov (.v 7)),
 p (.iad 2 (.r 1) (.r 0)),
 p (.fad 1 (.r 0)),
 p (.load (none) (.r 0)),
 p (.build [.str [],.str [],.bool false] [(0,1,.r 5),(1,1,.r 0)]),
 p (.bsl 3 [.r 0]),
 p (.app 3 40 (.r 12) (.r 0)),
 p (.mov (.r 0))] [(0,.v 0),(1,.v 1),(5,.r 0),(6,.v 6),(7,.v 7)])
 (.seq
 (.reg false [p (.mov (.v 7)),
 p (.bin .add (.r 0) (.k (.int .i64 1))),
 p (.mov (.r 0))] [(0,.v 0),(1,.v 1),(5,.v 5),(6,.v 6),(7,.r 0)])
 (.exit 1)))
 .skip))
 (.seq
 (.seq
 (.reg true [p (.mov (.v 0)),
 p (.mov (.v 6)),
 p (.iad 2 (.r 1) (.r 0)),
 p (.fad 1 (.r 0)),
 p (.load (none) (.r 0)),
 p (.mov (.v 1)),
 p (.mov (.v 7)),
 p (.iad 2 (.r 1) (.r 0)),
 p (.fad 1 (.r 0)),
 p (.load (none) (.r 0)),
 p (.bin .neq (.r 5) (.r 0))] [(0,.v 0),(1,.v 1),(5,.v 5),(6,.v 6),(7,.v 7),(96,.r 0)])
 (.cond (.v 96)
 (.reg true [p (.mov (.v 5)),
 p (.mov (.v 1)),
 p (.mov (.v 7)),
 p (.iad 2 (.r 1) (.r 0)),
 p (.fad 0 (.r 0)),
 p (.load (none) (.r 0)),
 p (.mov (.v 1)),
 p (.mov (.v 7)),
 p (.iad 2 (.r 1) (.r 0)),
 p (.fad 1 (.r 0)),
 p (.load (none) (.r 0)),
 p (.build [.str [],.str [],.bool false] [(0,1,.r 5),(1,1,.r 0)]),
 p (.bsl 3 [.r 0]),
 p (.app 3 40 (.r 12) (.r 0)),
 p (.mov (.r 0))] [(0,.v 0),(1,.v 1),(5,.r 0),(6,.v 6),(7,.v 7)])
 .skip))
 (.seq
 (.reg false [p (.mov (.v 6)),
 p (.bin .add (.r 0) (.k (.int .i64 1))),
 p (.mov (.r 0))] [(0,.v 0),(1,.v 1),(5,.v 5),(6,.r 0),(7,.v 7)])
 (.reg false [p (.mov (.v 7)),
 p (.bin .add (.r 0) (.k (.int .i64 1))),
 p (.mov (.r 0))] [(0,.v 0),(1,.v 1),(5,.v 5),(6,.v 6),(7,.r 0)])))))))))
 (.frz
 (.seq
 (.reg false [p (.mov (.v 5)),
 p (.mov (.r 0))] [(4,.r 0)])
 (.frz .ret))))))))
def r32:List RV:=[.t 4]
theorem en32:EnP Tryz.prog 32 116 c32 r32:=mkEnP (by kernel_rfl) Tryz.func32 (by kernel_rfl) ⟨_,rfl,by kernel_rfl,by kernel_rfl⟩
def c31:C :=
  (.seq
 (.reg false [p (.mov (.k (.bool false)))] [(0,.v 0),(1,.v 1)])
 (.seq
 (.seq
 (.reg false [p (.mov (.v 0)),
 p (.len false (.r 0)),
 p (.mov (.v 1)),
 p (.len false (.r 0)),
 p (.bin .neq (.r 2) (.r 0))] [(0,.v 0),(1,.v 1),(10,.r 0)])
 (.cond (.v 10)
 (.seq
 (.reg false [p (.mov (.k (.bool false)))] [(4,.r 0)])
 .ret)
 .skip))
 (.seq
 (.seq
 (.reg false [p (.mov (.v 0)),
 p (.len false (.r 0)),
 p (.mov (.k (.int .i64 0)))] [(0,.v 0),(1,.v 1),(12,.r 1),(13,.r 0)])
 (.block 0
 (.loop
 (.seq
 (.reg false [p (.bin .lss (.v 13) (.v 12))] [(0,.v 0),(1,.v 1),(12,.v 12),(13,.v 13),(14,.r 0)])
 (.seq
 (.cond (.v 14)
 .skip
 (.exit 0))
 (.seq
 (.block 1
 (.seq
 (.reg false [p (.mov (.v 13)),
 p (.mov (.r 0))] [(0,.v 0),(1,.v 1),(5,.r 0),(12,.v 12),(13,.v 13)])
 (.seq
 (.reg true [p (.mov (.v 0)),
 p (.mov (.v 5)),
 p (.iad 3 (.r 1) (.r 0)),
 p (.load (some 3) (.r 0)),
 p (.mov (.v 1)),
 p (.mov (.v 5)),
 p (.iad 3 (.r 1) (.r 0)),
 p (.load (some 3) (.r 0)),
 p (.eqs true [1,1,2] (.r 4) (.r 0))] [(0,.v 0),(1,.v 1),(12,.v 12),(13,.v 13),(24,.r 0)])
 (.cond (.v 24)
 (.seq
 (.reg false [p (.mov (.k (.bool false)))] [(4,.r 0)])
 .ret)
 .skip))))
 (.reg false [p (.bin .add (.v 13) (.k (.int .i64 1))),
 p (.mov (.r 0))] [(0,.v 0),(1,.v 1),(12,.v 12),(13,.r 0)])))))))
 (.frz
 (.seq
 (.reg false [p (.mov (.k (.bool true)))] [(4,.r 0)])
 .ret)))))
def r31:List RV:=[.t 4]
theorem en31:EnP Tryz.prog 31 26 c31 r31:=mkEnP (by kernel_rfl) Tryz.func31 (by kernel_rfl) ⟨_,rfl,by kernel_rfl,by kernel_rfl⟩
def c79:C :=
  (.seq
 (.reg false [p (.mov (.k (.fsl .nil 2 [])))] [(0,.v 0),(1,.v 1)])
 (.seq
 (.reg false [p (.bsl 2 []),
 p (.mov (.r 0))] [(0,.v 0),(1,.v 1),(5,.r 0)])
 (.seq
 (.seq
 (.reg false [p (.mov (.v 0)),
 p (.len false (.r 0)),
 p (.mov (.k (.int .i64 0)))] [(1,.v 1),(5,.v 5),(9,.r 2),(10,.r 1),(11,.r 0)])
 (.block 0
 (.loop
 (.seq
 (.reg false [p (.bin .lss (.v 11) (.v 10))] [(1,.v 1),(5,.v 5),(9,.v 9),(10,.v 10),(11,.v 11),(12,.r 0)])
 (.seq
 (.cond (.v 12)
 .skip
 (.exit 0))
 (.seq
 (.block 1
 (.seq
 (.reg false [p (.iad 2 (.v 9) (.v 11)),
 p (.load (some 2) (.r 0)),
 p (.alloc 2 (.agg [.str [],.str []])),
 p (.store (some 2) (.r 0) (.r 1))] [(1,.v 1),(5,.v 5),(7,.r 1),(9,.v 9),(10,.v 10),(11,.v 11)])
 (.seq
 (.reg false [p (.fad 0 (.v 7)),
 p (.load (none) (.r 0)),
 p (.mov (.v 1)),
 p (.bin .neq (.r 1) (.r 0))] [(1,.v 1),(5,.v 5),(7,.v 7),(9,.v 9),(10,.v 10),(11,.v 11),(18,.r 0)])
 (.cond (.v 18)
 (.reg false [p (.mov (.v 5)),
 p (.load (some 2) (.v 7)),
 p (.bsl 2 [.r 0]),
 p (.app 2 32 (.r 2) (.r 0)),
 p (.mov (.r 0))] [(1,.v 1),(5,.r 0),(9,.v 9),(10,.v 10),(11,.v 11)])
 .skip))))
 (.reg false [p (.bin .add (.v 11) (.k (.int .i64 1))),
 p (.mov (.r 0))] [(1,.v 1),(5,.v 5),(9,.v 9),(10,.v 10),(11,.r 0)])))))))
 (.frz
 (.seq
 (.reg false [p (.mov (.v 5)),
 p (.mov (.r 0))] [(4,.r 0)])
 (.frz .ret))))))
def r79:List RV:=[.t 4]
theorem en79:EnP Tryz.prog 79 25 c79 r79:=mkEnP (by kernel_rfl) Tryz.func79 (by kernel_rfl) ⟨_,rfl,by kernel_rfl,by kernel_rfl⟩
def c33:C :=
  (.seq
 (.reg false [p (.box 3 (.v 1)),
 p (.mov (.k (.fsl .nil 2 [])))] [(0,.v 0),(3,.r 1)])
 (.seq
 (.seq
 (.reg false [p (.fad 2 (.v 3)),
 p (.load (none) (.r 0))] [(0,.v 0),(3,.v 3),(6,.r 0)])
 (.cond (.v 6)
 (.seq
 (.reg false [p (.mov (.v 0)),
 p (.fad 0 (.v 3)),
 p (.load (none) (.r 0)),
 p (.call true (.k (.fn 79 [] [])) [.r 2,.r 0]),
 p (.mov (.r 0))] [(4,.r 0)])
 .ret)
 .skip))
 (.seq
 (.reg false [p (.mov (.v 0)),
 p (.fad 0 (.v 3)),
 p (.load (none) (.r 0)),
 p (.fad 1 (.v 3)),
 p (.load (none) (.r 0)),
 p (.call true (.k (.fn 74 [] [])) [.r 4,.r 2,.r 0]),
 p (.mov (.r 0))] [(4,.r 0)])
 .ret)))
def r33:List RV:=[.t 4]
theorem en33:EnP Tryz.prog 33 17 c33 r33:=mkEnP (by kernel_rfl) Tryz.func33 (by kernel_rfl) ⟨_,rfl,by kernel_rfl,by kernel_rfl⟩
def c10:C :=
  (.seq
 (.reg false [p (.box 4 (.v 0)),
 p (.box 4 (.v 1)),
 p (.mov (.k (.bool false)))] [(2,.r 2),(3,.r 1)])
 (.seq
 (.reg true [p (.load (some 4) (.v 2)),
 p (.call true (.k (.fn 25 [] [])) [.r 0]),
 p (.load (some 4) (.v 3)),
 p (.call true (.k (.fn 25 [] [])) [.r 0]),
 p (.store (some 4) (.v 2) (.r 2)),
 p (.store (some 4) (.v 3) (.r 1))] [(2,.v 2),(3,.v 3)])
 (.seq
 (.reg false [p (.load (some 4) (.v 2)),
 p (.load (some 4) (.v 3)),
 p (.call true (.k (.fn 30 [] [])) [.r 1,.r 0]),
 p (.mov (.r 0)),
 p (.ext (.r 0) 0),
 p (.ext (.r 1) 1),
 p (.mov (.r 1)),
 p (.mov (.r 1))] [(2,.v 2),(3,.v 3),(5,.r 1),(6,.r 0)])
 (.seq
 (.seq
 (.reg false [p (.load (some 4) (.v 2)),
 p (.call true (.k (.fn 18 [] [])) [.r 0]),
 p (.un .not (.r 0)),
 p (.mov (.r 0)),
 ⟨.load (some 4) (.v 3),some (0,false),[]⟩,
 ⟨.call true (.k (.fn 18 [] [])) [.r 0],some (1,false),[]⟩,
 ⟨.un .not (.r 0),some (2,false),[]⟩,
 p (.pick (.r 3) (.k (.bool true)) (.r 0))] [(2,.v 2),(3,.v 3),(5,.v 5),(6,.v 6),(28,.r 0)])
 (.cond (.v 28)
 (.seq
 (.reg false [p (.call true (.k (.fn 27 [] [])) []),
 p (.mov (.r 0)),
 ⟨.mov (.v 6),some (0,true),[]⟩,
 ⟨.bin .eql (.r 0) (.k (.int .i64 1)),some (1,true),[]⟩,
 p (.pick (.r 2) (.r 0) (.k (.bool false))),
 p (.mov (.r 0)),
 ⟨.mov (.v 5),some (0,true),[]⟩,
 ⟨.len false (.r 0),some (1,true),[]⟩,
 ⟨.bin .eql (.r 0) (.k (.int .i64 0)),some (2,true),[]⟩,
 p (.pick (.r 3) (.r 0) (.k (.bool false))),
 p (.mov (.r 0))] [(4,.r 0)])
 .ret)
 .skip))
 (.seq
 (.reg true [p (.load (some 4) (.v 2)),
 p (.call true (.k (.fn 29 [] [])) [.r 0]),
 p (.load (some 4) (.v 3)),
 p (.call true (.k (.fn 29 [] [])) [.r 0]),
 p (.mov (.r 2)),
 p (.mov (.r 1))] [(5,.v 5),(6,.v 6),(7,.r 1),(8,.r 0)])
 (.seq
 (.seq
 (.reg false [p (.mov (.v 6)),
 p (.bin .neq (.r 0) (.k (.int .i64 0))),
 p (.mov (.r 0)),
 ⟨.mov (.v 5),some (0,false),[]⟩,
 ⟨.mov (.v 7),some (1,false),[]⟩,
 ⟨.mov (.v 8),some (2,false),[]⟩,
 ⟨.call true (.k (.fn 32 [] [])) [.r 1,.r 0],some (3,false),[]⟩,
 ⟨.call true (.k (.fn 31 [] [])) [.r 3,.r 0],some (4,false),[]⟩,
 ⟨.un .not (.r 0),some (5,false),[]⟩,
 p (.pick (.r 6) (.k (.bool true)) (.r 0))] [(5,.v 5),(7,.v 7),(8,.v 8),(52,.r 0)])
 (.cond (.v 52)
 (.seq
 (.reg false [p (.mov (.k (.bool false)))] [(4,.r 0)])
 .ret)
 .skip))
 (.seq
 (.seq
 (.reg false [p (.mov (.v 5)),
 p (.len false (.r 0)),
 p (.mov (.k (.int .i64 0)))] [(7,.v 7),(8,.v 8),(53,.r 2),(54,.r 1),(55,.r 0)])
 (.block 0
 (.loop
 (.seq
 (.reg false [p (.bin .lss (.v 55) (.v 54))] [(7,.v 7),(8,.v 8),(53,.v 53),(54,.v 54),(55,.v 55),(56,.r 0)])
 (.seq
 (.cond (.v 56)
 .skip
 (.exit 0))
 (.seq
 (.block 1
 (.seq
 (.reg false [p (.iad 3 (.v 53) (.v 55)),
 p (.load (some 3) (.r 0)),
 p (.alloc 3 (.agg [.str [],.str [],.bool false])),
 p (.store (some 3) (.r 0) (.r 1))] [(7,.v 7),(8,.v 8),(10,.r 1),(53,.v 53),(54,.v 54),(55,.v 55)])
 (.reg false [p (.mov (.v 7)),
 p (.load (some 3) (.v 10)),
 p (.call true (.k (.fn 33 [] [])) [.r 1,.r 0]),
 p (.mov (.r 0))] [(7,.r 0),(8,.v 8),(53,.v 53),(54,.v 54),(55,.v 55)])))
 (.reg false [p (.bin .add (.v 55) (.k (.int .i64 1))),
 p (.mov (.r 0))] [(7,.v 7),(8,.v 8),(53,.v 53),(54,.v 54),(55,.r 0)])))))))
 (.frz
 (.seq
 (.reg false [p (.call true (.k (.fn 27 [] [])) []),
 p (.mov (.r 0)),
 ⟨.mov (.v 7),some (0,true),[]⟩,
 ⟨.mov (.v 8),some (1,true),[]⟩,
 ⟨.call true (.k (.fn 28 [] [])) [.r 1,.r 0],some (2,true),[]⟩,
 p (.pick (.r 3) (.r 0) (.k (.bool false))),
 p (.mov (.r 0))] [(4,.r 0)])
 .ret)))))))))
def r10:List RV:=[.t 4]
theorem en10:EnP Tryz.prog 10 69 c10 r10:=mkEnP (by kernel_rfl) Tryz.func10 (by kernel_rfl) ⟨_,rfl,by kernel_rfl,by kernel_rfl⟩
section
theorem app_oneG {H:Hp} {sz bt:Nat} {v:V} {l:List V} {a:V} {K:KI} (h:Gro 0 H.n H.m sz v l) (hl:l.length≤1000000) (hb:bt≤1000)
    (k:∀ v' fp ds,Gro H.n (H.n+1) (appd ds H.m) sz v' (l++[a])→(∀ id,id < H.n→(∀ q,v≠.sl id 0 q)→appd ds H.m id=H.m id)→K v' fp ds 1):fin (appO H sz bt v (.fsl .full sz [a])) K:=by
  have e:(l++[a]).length=l.length+1:=List.length_append
  have hm:(l.length+1)*bt≤140737488355328:=Nat.le_trans (Nat.mul_le_mul (show l.length+1≤1000001 by omega) hb) (by decide)
  unfold appO
  rcases h with ⟨st,h0,rfl,rfl⟩ | ⟨id,h1,h1',rfl,h2⟩
  · refine ⟨⟨rfl,rfl,h0,by simpa using hm⟩,k _ _ _ (.inr ⟨H.n,Nat.le_refl _,by simp,by simp,by simp [appd,upd]⟩) (fun id hid _ => ?_)⟩
    have:id≠H.n:=by omega
    simp [appd,upd,this]
  · simp only [h2]
    refine ⟨⟨rfl,trivial,trivial,Nat.le_refl _,by simpa using hm⟩,k _ _ _ (.inr ⟨H.n,Nat.le_refl _,by simp,by simp,by simp [appd,upd]⟩) (fun i hid hn => ?_)⟩
    have h3:i≠H.n:=by omega
    have h4:i≠id:=fun e => hn _ (by rw [e])
    simp [appd,upd,h3,h4]
theorem getC_pr1 (p:Pr):getC none 1 (prV p)=some (.str p.2):=rfl
theorem rows_len {w:Wd} (h:WR w):(rowsS w).length≤1000:=by
  have:=(rows_ok h).2.length_eq
  have h4:=runsPr_len h.few
  have hML:(metaPr w).length≤1:=by unfold metaPr; split<;>simp
  have:=h.ndags; have:=h.nruns
  simp only [rowsL,List.length_append,List.length_map] at *; omega
open Classical in
set_option maxHeartbeats 2000000 in
theorem rows_diff (a b:Wd) (ha:WdM a) (hb:WdM b):PCall Tryz.prog 30 [wdV a,wdV b] (.tup [chsV (if WR a∧WR b then diffS (rowsS a) (rowsS b) else []),.int .i64 (if WR a∧WR b then 0 else 1)]):=by
  refine en30 (by simp) (by simp [closedL,wdV_closed]) ?_
  have h1:=rows_rows a ha
  have h2:=rows_rows b hb
  by_cases c:WR a∧WR b
  case neg =>
    rw [if_neg c,if_neg c]
    by_cases c1:WR a
    · have c2:¬ WR b:=fun h => c ⟨c1,h⟩
      rw [if_pos c1,if_pos c1] at h1
      rw [if_neg c2,if_neg c2] at h2
      simp (maxSteps:=1000000) (disch:=omega) only [rg,gD,simprocAttr,c30,getC_wd]
      refine ⟨⟨rfl,rfl⟩,⟨rfl,rfl⟩,_,h1, ?_⟩
      simp (maxSteps:=1000000) (disch:=omega) only [rg,gD,simprocAttr,getC_wd]
      refine ⟨_,h2, ?_⟩
      simp (maxSteps:=1000000) (disch:=omega) only [rg,gD,simprocAttr]
      refine x_frz0 ?_
      simp (maxSteps:=1000000) (disch:=omega) only [rg,gD,simprocAttr]
      (refine fin_x rfl ?_ ?_<;>simp [pack,lo,loL,V.closed,closedL,mv_closed,chsV,mv_nil])
    · rw [if_neg c1,if_neg c1] at h1
      simp (maxSteps:=1000000) (disch:=omega) only [rg,gD,simprocAttr,c30,getC_wd]
      refine ⟨⟨rfl,rfl⟩,⟨rfl,rfl⟩,_,h1, ?_⟩
      simp (maxSteps:=1000000) (disch:=omega) only [rg,gD,simprocAttr,getC_wd]
      refine ⟨_,h2, ?_⟩
      simp (maxSteps:=1000000) (disch:=omega) only [rg,gD,simprocAttr]
      refine x_frz0 ?_
      simp (maxSteps:=1000000) (disch:=omega) only [rg,gD,simprocAttr]
      (refine fin_x rfl ?_ ?_<;>simp [pack,lo,loL,V.closed,closedL,mv_closed,chsV,mv_nil])
  rw [if_pos c,if_pos c]
  rw [if_pos c.1,if_pos c.1] at h1
  rw [if_pos c.2,if_pos c.2] at h2
  have hX:=rows_len c.1
  have hY:=rows_len c.2
  generalize rowsS a=X at hX h1
  generalize rowsS b=Y at hY h2
  have hdl:=diff_len X Y
  simp (maxSteps:=1000000) (disch:=omega) only [rg,gD,simprocAttr,c30,getC_wd]
  refine ⟨⟨rfl,rfl⟩,⟨rfl,rfl⟩,_,h1, ?_⟩
  simp (maxSteps:=1000000) (disch:=omega) only [rg,gD,simprocAttr,getC_wd]
  refine ⟨_,h2, ?_⟩
  simp (maxSteps:=1000000) (disch:=omega) only [rg,gD,simprocAttr,prsV]
  have sl:∀ a b,slSt .loose a b none=.loose:=fun _ _ => rfl
  have tk:∀ l:List Pr,List.take l.length (mv prV l)=mv prV l:=fun l => List.take_of_length_le (by rw [mv_len]; exact Nat.le_refl _)
  refine x_it (X.length+Y.length) (fun k σ H => ∃ x y acc v,k+x.length+y.length≤X.length+Y.length∧diffS X Y=acc++diffS x y∧Gro 0 H.n H.m 3 v (mv chV acc)∧x.length≤X.length∧y.length≤Y.length ∧
    σ=[(6,.fsl .loose 2 (mv prV x)),(8,.fsl .loose 2 (mv prV y)),(10,v)]) ⟨X,Y,[],.fsl .nil 3 [],by omega,rfl,.nil,Nat.le_refl _,Nat.le_refl _,rfl⟩ ?_
  rintro T k σ ⟨n,m⟩ hkk ⟨x,y,acc,v,hk,hd,hg,hx,hy,rfl⟩ hN hX' hR
  simp only at hg
  have hal:acc.length≤2000:=by have:=congrArg List.length hd; rw [List.length_append] at this; omega
  cases x with
  | nil =>
    cases y with
    | nil =>
      rw [diff_nil,List.append_nil] at hd
      simp (maxSteps:=1000000) (disch:=omega) only [rg,gD,simprocAttr,mv_nil]
      refine hX' _ _ _ ?_
      simp (maxSteps:=1000000) (disch:=omega) only [rg,gD,simprocAttr]
      obtain ⟨fz,st,f1,f2,f3⟩:=hg.frz (mv_closed chV_closed)
      refine x_frz fz ?_
      simp only [frzS,f3]
      simp (maxSteps:=1000000) (disch:=omega) only [rg,gD,simprocAttr]
      refine x_frz0 ?_
      simp (maxSteps:=1000000) (disch:=omega) only [rg,gD,simprocAttr]
      rw [hd]
      (refine fin_x rfl ?_ ?_<;>simp [pack,lo,loL,V.closed,closedL,mv_closed,chsV,chV_closed,mv_lo chV_lo])
    | cons q y =>
      rw [diff_r] at hd
      simp (maxSteps:=1000000) (disch:=omega) only [rg,gD,simprocAttr,mv_nil,mv_len,mv_cons,getC_pr0,getC_pr1,sl,show (0:Int) < ((y.length+1:Nat):Int) by omega,show ¬ ((y.length+1:Nat):Int)=0 by omega]
      refine app_oneG hg (by rw [mv_len]; omega) (by decide) fun v' fp ds hG hO => ?_
      rw [x_nx]
      refine ⟨by simp only [compat_nil], ?_⟩
      simp (maxSteps:=1000000) (disch:=omega) only [rg,gD,simprocAttr,sl,mv_len,tk]
      refine ⟨⟨by omega,by omega⟩, ?_⟩
      simp only [List.length_cons,List.length_nil] at hk hy
      exact hN _ _ (by omega) ⟨[],y,acc++[setC' q],v',by simp only [List.length_nil]; omega,by rw [hd]; simp,by simpa [mv,chV,setC'] using hG.low (Nat.zero_le _),by simp,by omega,rfl⟩
  | cons p x =>
    cases y with
    | nil =>
      rw [diff_l] at hd
      simp (maxSteps:=1000000) (disch:=omega) only [rg,gD,simprocAttr,mv_nil,mv_len,mv_cons,getC_pr0,getC_pr1,sl,show (0:Int) < ((x.length+1:Nat):Int) by omega,show ¬ ((x.length+1:Nat):Int)=0 by omega]
      refine app_oneG hg (by rw [mv_len]; omega) (by decide) fun v' fp ds hG hO => ?_
      rw [x_nx]
      refine ⟨by simp only [compat_nil], ?_⟩
      simp (maxSteps:=1000000) (disch:=omega) only [rg,gD,simprocAttr,sl,mv_len,tk]
      refine ⟨⟨by omega,by omega⟩, ?_⟩
      simp only [List.length_cons,List.length_nil] at hk hx
      exact hN _ _ (by omega) ⟨x,[],acc++[goneC p],v',by simp only [List.length_nil]; omega,by rw [hd]; simp,by simpa [mv,chV,goneC] using hG.low (Nat.zero_le _),by omega,by simp,rfl⟩
    | cons q y =>
      rw [diff_c] at hd
      simp only [List.length_cons] at hk hx hy
      cases g1:ltS p.1 q.1 with
      | true =>
        have g1':Op.bytesLess p.1 q.1=true:=g1
        rw [if_pos g1] at hd
        simp (maxSteps:=1000000) (disch:=omega) only [rg,gD,simprocAttr,mv_nil,mv_len,mv_cons,getC_pr0,getC_pr1,sl,show (0:Int) < ((x.length+1:Nat):Int) by omega,show ¬ ((x.length+1:Nat):Int)=0 by omega,show (0:Int) < ((y.length+1:Nat):Int) by omega,show ¬ ((y.length+1:Nat):Int)=0 by omega,g1']
        refine app_oneG hg (by rw [mv_len]; omega) (by decide) fun v' fp ds hG hO => ?_
        rw [x_nx]
        refine ⟨by simp only [compat_nil], ?_⟩
        simp (maxSteps:=1000000) (disch:=omega) only [rg,gD,simprocAttr,sl,mv_len,tk]
        refine ⟨⟨by omega,by omega⟩, ?_⟩
        exact hN _ _ (by omega) ⟨x,q::y,acc++[goneC p],v',by simp only [List.length_cons]; omega,by rw [hd]; simp,by simpa [mv,chV,goneC] using hG.low (Nat.zero_le _),by omega,by simp; omega,rfl⟩
      | false =>
        have g1':Op.bytesLess p.1 q.1=false:=g1
        rw [if_neg (by rw [g1]; simp)] at hd
        cases g2:ltS q.1 p.1 with
        | true =>
          have g2':Op.bytesLess q.1 p.1=true:=g2
          rw [if_pos g2] at hd
          simp (maxSteps:=1000000) (disch:=omega) only [rg,gD,simprocAttr,mv_nil,mv_len,mv_cons,getC_pr0,getC_pr1,sl,show (0:Int) < ((x.length+1:Nat):Int) by omega,show ¬ ((x.length+1:Nat):Int)=0 by omega,show (0:Int) < ((y.length+1:Nat):Int) by omega,show ¬ ((y.length+1:Nat):Int)=0 by omega,g1',g2']
          refine app_oneG hg (by rw [mv_len]; omega) (by decide) fun v' fp ds hG hO => ?_
          rw [x_nx]
          refine ⟨by simp only [compat_nil], ?_⟩
          simp (maxSteps:=1000000) (disch:=omega) only [rg,gD,simprocAttr,sl,mv_len,tk]
          refine ⟨⟨by omega,by omega⟩, ?_⟩
          exact hN _ _ (by omega) ⟨p::x,y,acc++[setC' q],v',by simp only [List.length_cons]; omega,by rw [hd]; simp,by simpa [mv,chV,setC'] using hG.low (Nat.zero_le _),by simp; omega,by omega,rfl⟩
        | false =>
          have g2':Op.bytesLess q.1 p.1=false:=g2
          rw [if_neg (by rw [g2]; simp)] at hd
          by_cases g3:p.2=q.2
          · rw [if_neg (fun h => h g3),List.nil_append] at hd
            simp (maxSteps:=1000000) (disch:=omega) only [rg,gD,simprocAttr,mv_nil,mv_len,mv_cons,getC_pr0,getC_pr1,sl,show (0:Int) < ((x.length+1:Nat):Int) by omega,show ¬ ((x.length+1:Nat):Int)=0 by omega,show (0:Int) < ((y.length+1:Nat):Int) by omega,show ¬ ((y.length+1:Nat):Int)=0 by omega,g1',g2',eq_true g3,tk]
            refine ⟨⟨by omega,by omega⟩,⟨by omega,by omega⟩, ?_⟩
            exact hN _ _ (by omega) ⟨x,y,acc,v,by omega,hd,hg,by omega,by omega,rfl⟩
          · rw [if_pos g3] at hd
            simp (maxSteps:=1000000) (disch:=omega) only [rg,gD,simprocAttr,mv_nil,mv_len,mv_cons,getC_pr0,getC_pr1,sl,show (0:Int) < ((x.length+1:Nat):Int) by omega,show ¬ ((x.length+1:Nat):Int)=0 by omega,show (0:Int) < ((y.length+1:Nat):Int) by omega,show ¬ ((y.length+1:Nat):Int)=0 by omega,g1',g2',eq_false g3,tk]
            refine app_oneG hg (by rw [mv_len]; omega) (by decide) fun v' fp ds hG hO => ?_
            rw [x_nx]
            refine ⟨by simp only [compat_nil], ?_⟩
            simp (maxSteps:=1000000) (disch:=omega) only [rg,gD,simprocAttr,sl,mv_len,tk]
            refine ⟨⟨by omega,by omega⟩,⟨by omega,by omega⟩, ?_⟩
            exact hN _ _ (by omega) ⟨x,y,acc++[setC' q],v',by omega,by rw [hd]; simp,by simpa [mv,chV,setC'] using hG.low (Nat.zero_le _),by omega,by omega,rfl⟩
end
section
set_option maxHeartbeats 2000000 in
theorem ref_diff (st st':St) (X Y:List Pr) (hX:X.length≤10000) (hY:Y.length≤10000):PCall Tryz.prog 32 [.fsl st 2 (mv prV X),.fsl st' 2 (mv prV Y)] (chsV (diffS X Y)):=by
  refine en32 (by simp) (by simp [closedL,V.closed,mv_closed prV_closed]) ?_
  have hdl:=diff_len X Y
  simp (maxSteps:=1000000) (disch:=omega) only [rg,gD,simprocAttr,c32]
  refine x_it (X.length+Y.length) (fun k σ H => ∃ i j acc v,k≤i+j∧i≤X.length∧j≤Y.length∧diffS X Y=acc++diffS (X.drop i) (Y.drop j)∧Gro 0 H.n H.m 3 v (mv chV acc) ∧
    σ=[(0,.fsl st 2 (mv prV X)),(1,.fsl st' 2 (mv prV Y)),(5,v),(6,.int .i64 (i:Int)),(7,.int .i64 (j:Int))]) ⟨0,0,[],.fsl .full 3 [],by omega,by omega,by omega,rfl,.full,rfl⟩ ?_
  rintro T k σ ⟨n,m⟩ hkk ⟨i,j,acc,v,hk,hi,hj,hd,hg,rfl⟩ hN hX' hR
  simp only at hg
  have hal:acc.length≤20000:=by have:=congrArg List.length hd; rw [List.length_append] at this; omega
  by_cases ci:i < X.length
  · obtain ⟨p,hp⟩:∃ p,p=X[i]:=⟨_,rfl⟩
    have ex:X.drop i=p::X.drop (i+1):=by rw [hp]; exact List.drop_eq_getElem_cons ci
    by_cases cj:j < Y.length
    · obtain ⟨q,hq⟩:∃ q,q=Y[j]:=⟨_,rfl⟩
      have ey:Y.drop j=q::Y.drop (j+1):=by rw [hq]; exact List.drop_eq_getElem_cons cj
      rw [ex,ey,diff_c] at hd
      cases g1:ltS p.1 q.1 with
      | true =>
        have g1':Op.bytesLess p.1 q.1=true:=g1
        rw [if_pos g1,← ey] at hd
        simp (maxSteps:=1000000) (disch:=omega) only [rg,gD,simprocAttr,mv_len,show (i:Int) < X.length by omega,show (j:Int) < Y.length by omega,show ¬ (Y.length:Int)≤j by omega,mv_get ci,mv_get cj,← hp,← hq,Int.toNat_natCast,getC_pr0,getC_pr1,g1']
        refine app_oneG hg (by rw [mv_len]; omega) (by decide) fun v' fp ds hG hO => ?_
        rw [x_nx]
        refine ⟨by simp only [compat_nil], ?_⟩
        simp (maxSteps:=1000000) (disch:=omega) only [rg,gD,simprocAttr]
        exact hN _ _ (by omega) ⟨i+1,j,acc++[goneC p],v',by omega,by omega,by omega,by rw [hd]; simp,by simpa [mv,chV,goneC] using hG.low (Nat.zero_le _),rfl⟩
      | false =>
        have g1':Op.bytesLess p.1 q.1=false:=g1
        rw [if_neg (by rw [g1]; simp)] at hd
        cases g2:ltS q.1 p.1 with
        | true =>
          have g2':Op.bytesLess q.1 p.1=true:=g2
          rw [if_pos g2,← ex] at hd
          simp (maxSteps:=1000000) (disch:=omega) only [rg,gD,simprocAttr,mv_len,show (i:Int) < X.length by omega,show (j:Int) < Y.length by omega,show ¬ (Y.length:Int)≤j by omega,show ¬ (X.length:Int)≤i by omega,mv_get ci,mv_get cj,← hp,← hq,Int.toNat_natCast,getC_pr0,getC_pr1,g1',g2']
          refine app_oneG hg (by rw [mv_len]; omega) (by decide) fun v' fp ds hG hO => ?_
          rw [x_nx]
          refine ⟨by simp only [compat_nil], ?_⟩
          simp (maxSteps:=1000000) (disch:=omega) only [rg,gD,simprocAttr]
          exact hN _ _ (by omega) ⟨i,j+1,acc++[setC' q],v',by omega,by omega,by omega,by rw [hd]; simp,by simpa [mv,chV,setC'] using hG.low (Nat.zero_le _),rfl⟩
        | false =>
          have g2':Op.bytesLess q.1 p.1=false:=g2
          rw [if_neg (by rw [g2]; simp)] at hd
          by_cases g3:p.2=q.2
          · rw [if_neg (fun h => h g3),List.nil_append] at hd
            simp (maxSteps:=1000000) (disch:=omega) only [rg,gD,simprocAttr,mv_len,show (i:Int) < X.length by omega,show (j:Int) < Y.length by omega,show ¬ (Y.length:Int)≤j by omega,show ¬ (X.length:Int)≤i by omega,mv_get ci,mv_get cj,← hp,← hq,Int.toNat_natCast,getC_pr0,getC_pr1,g1',g2',eq_true g3]
            exact hN _ _ (by omega) ⟨i+1,j+1,acc,v,by omega,by omega,by omega,hd,hg,rfl⟩
          · rw [if_pos g3] at hd
            simp (maxSteps:=1000000) (disch:=omega) only [rg,gD,simprocAttr,mv_len,show (i:Int) < X.length by omega,show (j:Int) < Y.length by omega,show ¬ (Y.length:Int)≤j by omega,show ¬ (X.length:Int)≤i by omega,mv_get ci,mv_get cj,← hp,← hq,Int.toNat_natCast,getC_pr0,getC_pr1,g1',g2',eq_false g3]
            refine app_oneG hg (by rw [mv_len]; omega) (by decide) fun v' fp ds hG hO => ?_
            rw [x_nx]
            refine ⟨by simp only [compat_nil], ?_⟩
            simp (maxSteps:=1000000) (disch:=omega) only [rg,gD,simprocAttr]
            exact hN _ _ (by omega) ⟨i+1,j+1,acc++[setC' q],v',by omega,by omega,by omega,by rw [hd]; simp,by simpa [mv,chV,setC'] using hG.low (Nat.zero_le _),rfl⟩
    · have ey:Y.drop j=[]:=List.drop_eq_nil_of_le (by omega)
      rw [ex,ey,diff_l,← ey] at hd
      simp (maxSteps:=1000000) (disch:=omega) only [rg,gD,simprocAttr,mv_len,show (i:Int) < X.length by omega,show (Y.length:Int)≤j by omega,mv_get ci,← hp,Int.toNat_natCast,getC_pr0]
      refine app_oneG hg (by rw [mv_len]; omega) (by decide) fun v' fp ds hG hO => ?_
      rw [x_nx]
      refine ⟨by simp only [compat_nil], ?_⟩
      simp (maxSteps:=1000000) (disch:=omega) only [rg,gD,simprocAttr]
      exact hN _ _ (by omega) ⟨i+1,j,acc++[goneC p],v',by omega,by omega,by omega,by rw [hd]; simp,by simpa [mv,chV,goneC] using hG.low (Nat.zero_le _),rfl⟩
  · have ex:X.drop i=[]:=List.drop_eq_nil_of_le (by omega)
    by_cases cj:j < Y.length
    · obtain ⟨q,hq⟩:∃ q,q=Y[j]:=⟨_,rfl⟩
      have ey:Y.drop j=q::Y.drop (j+1):=by rw [hq]; exact List.drop_eq_getElem_cons cj
      rw [ex,ey,diff_r,← ex] at hd
      simp (maxSteps:=1000000) (disch:=omega) only [rg,gD,simprocAttr,mv_len,show ¬ (i:Int) < X.length by omega,show (j:Int) < Y.length by omega,show ¬ (Y.length:Int)≤j by omega,show (X.length:Int)≤i by omega,mv_get cj,← hq,Int.toNat_natCast,getC_pr0,getC_pr1]
      refine app_oneG hg (by rw [mv_len]; omega) (by decide) fun v' fp ds hG hO => ?_
      rw [x_nx]
      refine ⟨by simp only [compat_nil], ?_⟩
      simp (maxSteps:=1000000) (disch:=omega) only [rg,gD,simprocAttr]
      exact hN _ _ (by omega) ⟨i,j+1,acc++[setC' q],v',by omega,by omega,by omega,by rw [hd]; simp,by simpa [mv,chV,setC'] using hG.low (Nat.zero_le _),rfl⟩
    · have ey:Y.drop j=[]:=List.drop_eq_nil_of_le (by omega)
      rw [ex,ey,diff_nil,List.append_nil] at hd
      simp (maxSteps:=1000000) (disch:=omega) only [rg,gD,simprocAttr,mv_len,show ¬ (i:Int) < X.length by omega,show ¬ (j:Int) < Y.length by omega]
      refine hX' _ _ _ ?_
      simp (maxSteps:=1000000) (disch:=omega) only [rg,gD,simprocAttr]
      obtain ⟨fz,st,f1,f2,f3⟩:=hg.frz (mv_closed chV_closed)
      refine x_frz fz ?_
      simp only [frzS,f3]
      simp (maxSteps:=1000000) (disch:=omega) only [rg,gD,simprocAttr]
      refine x_frz0 ?_
      simp (maxSteps:=1000000) (disch:=omega) only [rg,gD,simprocAttr]
      rw [hd]
      (refine fin_x rfl ?_ ?_<;>simp [pack,lo,loL,V.closed,closedL,mv_closed,chsV,chV_closed,mv_lo chV_lo])
theorem eqF_ch (p q:Chg):eqF [1,1,2] [.str p.key,.str p.val,.bool p.gone] [.str q.key,.str q.val,.bool q.gone]=some (decide (p=q)):=by
  obtain ⟨a,b,c⟩:=p; obtain ⟨d,e,f⟩:=q
  simp only [eqF,Chg.mk.injEq]
  congr 1
  rw [Bool.eq_iff_iff]; simp
theorem getC_ch (p:Chg):getC (some 3) 0 (chV p)=some (chV p):=rfl
theorem like13 (st st':St) (a b:List Chg) (ha:a.length≤100000) (hb:b.length≤100000):PCall Tryz.prog 31 [.fsl st 3 (mv chV a),.fsl st' 3 (mv chV b)] (.bool (decide (a=b))):=by
  refine en31 (by simp) (by simp [closedL,V.closed,mv_closed chV_closed]) ?_
  simp (maxSteps:=1000000) (disch:=omega) only [rg,gD,simprocAttr,c31,mv_len]
  by_cases c:a.length=b.length
  case neg =>
    have hne:a≠b:=fun e => c (by rw [e])
    simp (maxSteps:=1000000) (disch:=omega) only [rg,gD,simprocAttr,show ¬ (a.length:Int)=b.length by omega]
    (refine fin_x rfl ?_ ?_<;>simp [pack,lo,loL,V.closed,closedL,mv_closed,hne])
  simp (maxSteps:=1000000) (disch:=omega) only [rg,gD,simprocAttr,show (a.length:Int)=b.length by omega]
  refine x_it a.length (fun k σ H => a.take k=b.take k∧σ=[(0,.fsl st 3 (mv chV a)),(1,.fsl st' 3 (mv chV b)),(12,.int .i64 (a.length:Int)),(13,.int .i64 (k:Int))]) ⟨rfl,by simp [c]⟩ ?_
  rintro T k σ ⟨n,m⟩ hkk ⟨ht,rfl⟩ hN hX hR
  by_cases hk:k < a.length
  · have hk2:k < b.length:=by omega
    have e:(a.take (k+1)=b.take (k+1))↔a[k]=b[k]:=by
      rw [List.take_succ_eq_append_getElem hk,List.take_succ_eq_append_getElem hk2,ht]
      exact ⟨fun h => by simpa using List.append_cancel_left h,fun h => by rw [h]⟩
    by_cases h:a[k]=b[k]
    · simp (maxSteps:=1000000) (disch:=omega) only [rg,gD,simprocAttr,show (k:Int) < a.length by omega,mv_get hk,mv_get hk2,Int.toNat_natCast,getC_ch,chV,eqF_ch,decide_eq_true h]
      exact hN _ _ hk ⟨e.2 h,rfl⟩
    · have hne:a≠b:=fun e => h (by simp [e])
      simp (maxSteps:=1000000) (disch:=omega) only [rg,gD,simprocAttr,show (k:Int) < a.length by omega,mv_get hk,mv_get hk2,Int.toNat_natCast,getC_ch,chV,eqF_ch,decide_eq_false h]
      refine hR _ _ ?_
      simp (maxSteps:=1000000) (disch:=omega) only [rg,gD,simprocAttr]
      (refine fin_x rfl ?_ ?_<;>simp [pack,lo,loL,V.closed,closedL,mv_closed,hne])
  · obtain rfl:k=a.length:=by omega
    have hab:a=b:=by rw [List.take_length,c,List.take_length] at ht; exact ht
    simp (maxSteps:=1000000) (disch:=omega) only [rg,gD,simprocAttr,Int.lt_irrefl]
    refine hX _ _ _ ?_
    simp (maxSteps:=1000000) (disch:=omega) only [rg,gD,simprocAttr]
    refine x_frz0 ?_
    simp (maxSteps:=1000000) (disch:=omega) only [rg,gD,simprocAttr]
    (refine fin_x rfl ?_ ?_<;>simp [pack,lo,loL,V.closed,closedL,mv_closed,hab])
theorem filter_take {l:List Pr} {f:Pr→Bool} {k:Nat} (h:k < l.length):(l.take (k+1)).filter f=(l.take k).filter f++if f l[k]=true then [l[k]] else []:=by
  rw [List.take_succ_eq_append_getElem h,List.filter_append]; congr 1
  by_cases c:f l[k]=true<;>simp [c]
theorem ref_without (st:St) (l:List Pr) (k:Str) (hl:l.length≤100000):PCall Tryz.prog 79 [.fsl st 2 (mv prV l),.str k] (prsV (l.filter fun p => decide (p.1≠k))):=by
  refine en79 (by simp) (by simp [closedL,V.closed,mv_closed prV_closed]) ?_
  simp (maxSteps:=1000000) (disch:=omega) only [rg,gD,simprocAttr,c79,mv_len]
  refine x_it l.length (fun j σ H => ∃ v,Gro 0 H.n H.m 2 v (mv prV ((l.take j).filter fun p => decide (p.1≠k))) ∧
    σ=[(1,.str k),(5,v),(9,.fsl st 2 (mv prV l)),(10,.int .i64 (l.length:Int)),(11,.int .i64 (j:Int))]) ⟨.fsl .full 2 [],.full,rfl⟩ ?_
  rintro T j σ ⟨n,m⟩ hjj ⟨v,hg,rfl⟩ hN hX hR
  simp only at hg
  by_cases hj:j < l.length
  · obtain ⟨p,hp⟩:∃ p,p=l[j]:=⟨_,rfl⟩
    have hf:=filter_take (f:=fun p => decide (p.1≠k)) hj
    have hfl:=List.length_filter_le (fun p:Pr => decide (p.1≠k)) (l.take j)
    rw [List.length_take] at hfl
    rw [← hp] at hf
    have hg1:∀ o,Gro 0 (n+1) (upd (upd m n o) n (some (.arr 2 [prV p]))) 2 v (mv prV ((l.take j).filter fun p => decide (p.1≠k))):=fun o => hg.keep (Nat.le_succ _) (fun id h1 h2 => by simp (disch:=omega) only [upd_ne])
    by_cases c:p.1=k
    · rw [if_neg (by simp [c]),List.append_nil] at hf
      simp (maxSteps:=1000000) (disch:=omega) only [rg,gD,simprocAttr,show (j:Int) < l.length by omega,mv_get hj,← hp,Int.toNat_natCast,getC_pr,setC_pr0,getC_pr0,eq_true c]
      exact hN _ _ hj ⟨v,by rw [hf]; exact hg1 _,rfl⟩
    · rw [if_pos (by simp [c])] at hf
      simp (maxSteps:=1000000) (disch:=omega) only [rg,gD,simprocAttr,show (j:Int) < l.length by omega,mv_get hj,← hp,Int.toNat_natCast,getC_pr,setC_pr0,getC_pr0,eq_false c]
      refine ⟨⟨rfl,rfl⟩, ?_⟩
      refine app_oneG (hg1 _) (by rw [mv_len]; omega) (by decide) fun v' fp ds hG hO => ?_
      rw [x_nx]
      refine ⟨by simp only [compat_nil], ?_⟩
      simp (maxSteps:=1000000) (disch:=omega) only [rg,gD,simprocAttr]
      exact hN _ _ hj ⟨v',by rw [hf]; simpa [mv] using hG.low (Nat.zero_le _),rfl⟩
  · obtain rfl:j=l.length:=by omega
    rw [List.take_length] at hg
    simp (maxSteps:=1000000) (disch:=omega) only [rg,gD,simprocAttr,Int.lt_irrefl]
    refine hX _ _ _ ?_
    simp (maxSteps:=1000000) (disch:=omega) only [rg,gD,simprocAttr]
    obtain ⟨fz,st,f1,f2,f3⟩:=hg.frz (mv_closed prV_closed)
    refine x_frz fz ?_
    simp only [frzS,f3]
    simp (maxSteps:=1000000) (disch:=omega) only [rg,gD,simprocAttr]
    refine x_frz0 ?_
    simp (maxSteps:=1000000) (disch:=omega) only [rg,gD,simprocAttr]
    (refine fin_x rfl ?_ ?_<;>simp [pack,lo,loL,V.closed,closedL,mv_closed,prsV,prV_closed,mv_lo prV_lo])
theorem ref_change (st:St) (l:List Pr) (c:Chg) (hl:l.length≤100000):PCall Tryz.prog 33 [.fsl st 2 (mv prV l),chV c] (prsV (changeP l c)):=by
  refine en33 (by simp) (by simp [closedL,V.closed,mv_closed prV_closed,chV_closed]) ?_
  have h1:=ref_without st l c.key hl
  have h2:=with_st st l c.key c.val hl
  obtain ⟨k,v,g⟩:=c
  simp only at h1 h2
  simp (maxSteps:=1000000) (disch:=omega) only [rg,gD,simprocAttr,c33,chV]
  cases g with
  | true =>
    simp (maxSteps:=1000000) (disch:=omega) only [rg,gD,simprocAttr]
    refine ⟨_,h1, ?_⟩
    simp (maxSteps:=1000000) (disch:=omega) only [rg,gD,simprocAttr]
    (refine fin_x rfl ?_ ?_<;>simp [pack,lo,loL,V.closed,closedL,mv_closed,prsV,prV_closed,mv_lo prV_lo,changeP])
  | false =>
    simp (maxSteps:=1000000) (disch:=omega) only [rg,gD,simprocAttr]
    refine ⟨_,h2, ?_⟩
    simp (maxSteps:=1000000) (disch:=omega) only [rg,gD,simprocAttr]
    (refine fin_x rfl ?_ ?_<;>simp [pack,lo,loL,V.closed,closedL,mv_closed,prsV,prV_closed,mv_lo prV_lo,changeP])
end
section
theorem setC_ch0 (c:Chg):setC (some 3) 0 (V.agg [.str [],.str [],.bool false]) (chV c)=some (chV c):=rfl
theorem changeP_len (l:List Pr) (c:Chg):(changeP l c).length≤l.length+1:=by
  unfold changeP; split
  · exact Nat.le_trans (List.length_filter_le _ _) (Nat.le_succ _)
  · exact withP_len _ _ _ _
theorem changes_len:∀ (cs:List Chg) (l:List Pr),(cs.foldl changeP l).length≤l.length+cs.length
  | [],l => by simp
  | c::cs,l => by
    have h1:=changes_len cs (changeP l c)
    have h2:=changeP_len l c
    simp only [List.foldl_cons,List.length_cons]; omega
open Classical in
set_option maxHeartbeats 1000000 in
theorem law_diffs (a b:Wd) (ha:WdA a) (hb:WdA b):PCall Tryz.prog 10 [wdV a,wdV b] (.bool true):=by
  refine en10 (by simp) (by simp [closedL,wdV_closed]) ?_
  have fa:=law_few21 a ha
  have fb:=law_few21 b hb
  have ma:=few_M ha
  have mb:=few_M hb
  generalize fewS a=x at fa ma
  generalize fewS b=y at fb mb
  have h1:=rows_diff x y ma mb
  have r1:=ref_wright x ma.ok
  have r2:=ref_wright y mb.ok
  simp (maxSteps:=1000000) (disch:=omega) only [rg,gD,simprocAttr,c10,getC_wd,setC_wd]
  refine ⟨⟨rfl,rfl⟩,⟨rfl,rfl⟩,_,fa, ?_⟩
  simp (maxSteps:=1000000) (disch:=omega) only [rg,gD,simprocAttr,getC_wd,setC_wd]
  refine ⟨_,fb, ?_⟩
  simp (maxSteps:=1000000) (disch:=omega) only [rg,gD,simprocAttr,getC_wd,setC_wd]
  refine ⟨_,h1, ?_⟩
  simp (maxSteps:=1000000) (disch:=omega) only [rg,gD,simprocAttr,getC_wd,setC_wd]
  refine ⟨_,r1, ?_⟩
  by_cases c1:WR x
  case neg =>
    rw [decide_eq_false c1,if_neg (fun h => c1 h.1),if_neg (fun h => c1 h.1)]
    simp (maxSteps:=1000000) (disch:=omega) only [rg,gD,simprocAttr]
    refine ⟨_,law_alive21, ?_⟩
    simp (maxSteps:=1000000) (disch:=omega) only [rg,gD,simprocAttr,chsV,mv_nil]
    (refine fin_x rfl ?_ ?_<;>simp [pack,lo,loL,V.closed,closedL,mv_closed])
  rw [decide_eq_true c1]
  simp (maxSteps:=1000000) (disch:=omega) only [rg,gD,simprocAttr,getC_wd,setC_wd]
  refine ⟨_,r2, ?_⟩
  by_cases c2:WR y
  case neg =>
    rw [decide_eq_false c2,if_neg (fun h => c2 h.2),if_neg (fun h => c2 h.2)]
    simp (maxSteps:=1000000) (disch:=omega) only [rg,gD,simprocAttr]
    refine ⟨_,law_alive21, ?_⟩
    simp (maxSteps:=1000000) (disch:=omega) only [rg,gD,simprocAttr,chsV,mv_nil]
    (refine fin_x rfl ?_ ?_<;>simp [pack,lo,loL,V.closed,closedL,mv_closed])
  rw [decide_eq_true c2,if_pos ⟨c1,c2⟩,if_pos ⟨c1,c2⟩]
  have s1:=ref_rows x ma c1
  have s2:=ref_rows y mb c2
  have l1:=rows_len c1
  have l2:=rows_len c2
  have o1:=(rows_ok c1).1
  have o2:=(rows_ok c2).1
  have hmk:=diff_makes (rowsS x) (rowsS y) [] o1 o2
  rw [List.nil_append,List.nil_append] at hmk
  have hdl:=diff_len (rowsS x) (rowsS y)
  have hdf:=ref_diff .loose .loose (rowsS x) (rowsS y) (by omega) (by omega)
  generalize rowsS x=X at *
  generalize rowsS y=Y at *
  have hlk:=like13 .loose .loose (diffS X Y) (diffS X Y) (by omega) (by omega)
  rw [decide_eq_true rfl] at hlk
  have hlk2:=fun st => like8 st .loose Y Y (by omega) (by omega)
  rw [decide_eq_true rfl] at hlk2
  simp (maxSteps:=1000000) (disch:=omega) only [rg,gD,simprocAttr,getC_wd]
  refine ⟨_,s1, ?_⟩
  simp (maxSteps:=1000000) (disch:=omega) only [rg,gD,simprocAttr,getC_wd]
  refine ⟨_,s2, ?_⟩
  simp (maxSteps:=1000000) (disch:=omega) only [rg,gD,simprocAttr,prsV,chsV]
  refine ⟨_,hdf, ?_⟩
  simp (maxSteps:=1000000) (disch:=omega) only [rg,gD,simprocAttr,chsV]
  refine ⟨_,hlk, ?_⟩
  simp (maxSteps:=1000000) (disch:=omega) only [rg,gD,simprocAttr,mv_len]
  generalize diffS X Y=D at *
  refine x_it D.length (fun k σ H => σ=[(7,.fsl .loose 2 (mv prV ((D.take k).foldl changeP X))),(8,.fsl .loose 2 (mv prV Y)),(53,.fsl .loose 3 (mv chV D)),(54,.int .i64 (D.length:Int)),(55,.int .i64 (k:Int))]) rfl ?_
  rintro T k σ ⟨n,m⟩ hkk rfl hN hX hR
  by_cases hk:k < D.length
  · have hcl:=changes_len (D.take k) X
    rw [List.length_take] at hcl
    have hch:=ref_change .loose ((D.take k).foldl changeP X) D[k] (by omega)
    have e:(D.take (k+1)).foldl changeP X=changeP ((D.take k).foldl changeP X) D[k]:=by
      rw [List.take_succ_eq_append_getElem hk,List.foldl_append]; rfl
    rw [← e] at hch
    simp (maxSteps:=1000000) (disch:=omega) only [rg,gD,simprocAttr,show (k:Int) < D.length by omega,mv_get hk,Int.toNat_natCast,getC_ch,setC_ch0]
    refine ⟨_,hch, ?_⟩
    simp (maxSteps:=1000000) (disch:=omega) only [rg,gD,simprocAttr,prsV]
    exact hN _ _ hk rfl
  · obtain rfl:k=D.length:=by omega
    rw [List.take_length,hmk]
    simp (maxSteps:=1000000) (disch:=omega) only [rg,gD,simprocAttr,Int.lt_irrefl]
    refine hX _ _ _ ?_
    simp (maxSteps:=1000000) (disch:=omega) only [rg,gD,simprocAttr]
    refine x_frz0 ?_
    simp (maxSteps:=1000000) (disch:=omega) only [rg,gD,simprocAttr]
    refine ⟨_,law_alive21, ?_⟩
    simp (maxSteps:=1000000) (disch:=omega) only [rg,gD,simprocAttr]
    refine ⟨_,hlk2 .loose, ?_⟩
    simp (maxSteps:=1000000) (disch:=omega) only [rg,gD,simprocAttr]
    (refine fin_x rfl ?_ ?_<;>simp [pack,lo,loL,V.closed,closedL,mv_closed])
theorem row_diffs (a b:Wd) (ha:WdA a) (hb:WdA b):PCall Tryz.prog 10 [.agg [.int .i64 a.now,.int .i64 a.token,.fsl .loose 2 (mv dagV a.dags),.fsl .loose 5 (mv rnV a.runs)],.agg [.int .i64 b.now,.int .i64 b.token,.fsl .loose 2 (mv dagV b.dags),.fsl .loose 5 (mv rnV b.runs)]] (.bool true) :=
  law_diffs a b ha hb
end
end Go.Proofs.YtkdeckmglbnfbaaGreat.Ev
