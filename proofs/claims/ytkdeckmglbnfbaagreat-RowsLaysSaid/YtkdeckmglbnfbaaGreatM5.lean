/-
  Part 5 of what the proof of the statement RowsLays leans on: the evaluator, the functions in compact form, and what they answer.
-/
import Derived.Test.YtkdeckmglbnfbaaGreatM4
import Derived.Test.YtkdeckmglbnfbaaGreatProg
import Derived.KernelRfl
set_option linter.unusedSimpArgs false
set_option linter.unusedVariables false
set_option maxRecDepth 10000
namespace Go.Proofs.YtkdeckmglbnfbaaGreat.Ev
open Go
section
theorem ref21_number (n k:Int) (hn:n≤9223372036854775807):PCall Tryz.prog 75 [.int .i64 n,.int .i64 k] (.str (putS n k).1):=by
  refine en75 (by simp) (by simp [closedL,V.closed]) ?_
  simp (maxSteps:=1000000) (disch:=omega) only [rg,gD,simprocAttr,c75]
  refine ⟨_,ref_put n k hn, ?_⟩
  simp (maxSteps:=1000000) (disch:=omega) only [rg,gD,simprocAttr,sV]
  (refine fin_x rfl ?_ ?_<;>simp [pack,lo,loL,V.closed,closedL,mv_closed])
theorem withP_len (k v:Str):∀ (put:Bool) (l:List Pr),(withP k v put l).length≤l.length+1
  | put,[] => by simp only [withP]; split<;>simp
  | true,p::l => by
    rw [withP_true]; exact Nat.le_trans (List.length_filter_le _ _) (Nat.le_succ _)
  | false,p::l => by
    simp only [withP,true_and,Bool.false_or]
    cases h:ltS p.1 k with
    | true =>
      have:=withP_len k v false l
      simp only [Bool.true_eq_false,if_false,Bool.not_true,List.nil_append,List.length_append,List.length_cons]
      have:(if p.1≠k then [p] else []).length≤1:=by split<;>simp
      omega
    | false =>
      have:=List.length_filter_le (fun q:Pr => decide (q.1≠k)) l
      simp only [if_true,Bool.not_false,withP_true,List.length_append,List.length_cons,List.length_nil]
      have:(if p.1≠k then [p] else []).length≤1:=by split<;>simp
      omega
theorem putsP_len:∀ (l l0:List Pr),(putsP l0 l).length≤l0.length+l.length
  | [],l0 => by simp [putsP]
  | p::l,l0 => by
    have h1:=putsP_len l (withP p.1 p.2 false l0)
    have h2:=withP_len p.1 p.2 false l0
    simp only [putsP,List.foldl_cons,List.length_cons] at h1 ⊢; omega
theorem with_st (st:St) (l:List Pr) (k v:Str) (hl:l.length≤100000):PCall Tryz.prog 74 [.fsl st 2 (mv prV l),.str k,.str v] (.fsl .loose 2 (mv prV (withP k v false l))) :=
  (ref_with8 l k v hl).of_eq (by simp [loL,lo,prsV,mv_lo prV_lo])
theorem dagB_len {d:Dag} (h:dagRightS d=0):(dagB d).length≤1000:=by
  rw [← right_same] at h
  obtain ⟨_,h10,h16,_,hn⟩:=right_fit h
  have p1:=putS_len1 d.tasks.length; have p2:=textS_len d.name; have p3:=tsksB_len hn
  have:d.tasks.length*(10+8)≤10*18:=Nat.mul_le_mul h10 (Nat.le_refl _)
  unfold dagB; simp; omega
set_option maxHeartbeats 2000000 in
theorem ref_rows (w:Wd) (ok:WdM w) (hw:WR w):PCall Tryz.prog 29 [wdV w] (prsV (rowsS w)):=by
  refine en29 (by simp) (by simp [closedL,wdV_closed]) ?_
  have hnd:=hw.ndags
  have hnr:=hw.nruns
  have hfew:=hw.few
  have hML:(metaPr w).length≤1:=by unfold metaPr; split<;>simp
  simp (maxSteps:=1000000) (disch:=omega) only [rg,gD,simprocAttr,c29,getC_wnow,getC_wtok]
  refine ⟨⟨rfl,rfl⟩, ?_⟩
  obtain ⟨M,hMd⟩:∃ M:Sg→Hp→Prop,∀ σ' H',M σ' H'↔(H'.m 0=some (.arr 4 [wdV w])∧1≤H'.n∧(∃ st,find 3 σ'=some (.fsl st 2 (mv prV (putsP [] (metaPr w)))))∧find 1 σ'=some (.ptr 0 0 0)):=⟨_,fun _ _ => Iff.rfl⟩
  refine ⟨M, ?_, ?_⟩
  · by_cases c:0 < w.now∨0 < w.token
    · have hmeta:metaPr w=[([109],(putS w.now 6).1++(putS w.token 6).1)]:=by unfold metaPr; rw [if_pos c]
      have t1:=hw.now.2
      have t2:=hw.token.2
      unfold MT at t1 t2
      have p1:=putS_len w.now 6
      have p2:=putS_len w.token 6
      have hwt:=with_st .full [] [109] ((putS w.now 6).1++(putS w.token 6).1) (by simp)
      by_cases c1:0 < w.now
      · simp (maxSteps:=1000000) (disch:=omega) only [rg,gD,simprocAttr,getC_wnow,getC_wtok,c1]
        refine ⟨_,ref21_number w.now 6 (by omega), ?_⟩
        simp (maxSteps:=1000000) (disch:=omega) only [rg,gD,simprocAttr,getC_wtok]
        refine ⟨_,ref21_number w.token 6 (by omega), ?_⟩
        simp (maxSteps:=1000000) (disch:=omega) only [rg,gD,simprocAttr]
        refine ⟨by omega,_,hwt, ?_⟩
        simp (maxSteps:=1000000) (disch:=omega) only [rg,gD,simprocAttr]
        exact (hMd _ _).2 ⟨(by simp (disch:=omega) only [upd_eq,upd_ne,wo_0,wo_1,wo_2]),by show 1≤1; omega,⟨.loose,by rw [hmeta]; rfl⟩,rfl⟩
      · have c2:0 < w.token:=c.resolve_left c1
        simp (maxSteps:=1000000) (disch:=omega) only [rg,gD,simprocAttr,getC_wnow,getC_wtok,c1,c2]
        refine ⟨_,ref21_number w.now 6 (by omega), ?_⟩
        simp (maxSteps:=1000000) (disch:=omega) only [rg,gD,simprocAttr,getC_wtok]
        refine ⟨_,ref21_number w.token 6 (by omega), ?_⟩
        simp (maxSteps:=1000000) (disch:=omega) only [rg,gD,simprocAttr]
        refine ⟨by omega,_,hwt, ?_⟩
        simp (maxSteps:=1000000) (disch:=omega) only [rg,gD,simprocAttr]
        exact (hMd _ _).2 ⟨(by simp (disch:=omega) only [upd_eq,upd_ne,wo_0,wo_1,wo_2]),by show 1≤1; omega,⟨.loose,by rw [hmeta]; rfl⟩,rfl⟩
    · have hmeta:metaPr w=[]:=by unfold metaPr; rw [if_neg c]
      have c1:¬ 0 < w.now:=fun h => c (.inl h)
      have c2:¬ 0 < w.token:=fun h => c (.inr h)
      simp (maxSteps:=1000000) (disch:=omega) only [rg,gD,simprocAttr,getC_wnow,getC_wtok,c1,c2]
      exact (hMd _ _).2 ⟨(by simp (disch:=omega) only [upd_eq,upd_ne,wo_0,wo_1,wo_2]),by show 1≤1; omega,⟨.full,by rw [hmeta]; rfl⟩,rfl⟩
  · rintro σ' ⟨n,m⟩ hm
    obtain ⟨e0,hn,⟨st,s3⟩,s1⟩:=(hMd _ _).1 hm
    simp only at e0 hn
    clear hm hMd M
    simp (maxSteps:=1000000) (disch:=omega) only [rg,gD,simprocAttr,s1,s3,e0,getC_wd2,mv_len]
    refine x_it w.dags.length (fun i σ H => 1≤H.n∧H.m 0=some (.arr 4 [wdV w])∧(∃ st,σ=[(1,.ptr 0 0 0),(3,.fsl st 2 (mv prV (putsP [] (metaPr w++(w.dags.take i).map dagPr)))),(31,.fsl .loose 2 (mv dagV w.dags)),(32,.int .i64 (w.dags.length:Int)),(33,.int .i64 (i:Int))])) ⟨hn,e0,st,by simp⟩ ?_
    clear s1 s3 e0 hn
    clear n m st
    rintro T i σ ⟨n,m⟩ hii ⟨hn,e0,st,rfl⟩ hN hX hR
    simp only at hn e0
    by_cases hi:i < w.dags.length
    · obtain ⟨d,hd⟩:∃ d,d=w.dags[i]:=⟨_,rfl⟩
      have hdm:dagRightS d=0:=hw.dags _ (hd ▸ List.getElem_mem hi)
      have htk:=dags_take hi
      rw [← hd] at htk
      have hnl:=dag_nl hdm
      have hbl:=dagB_len hdm
      have hr:=right_same d
      rw [hdm] at hr
      obtain ⟨_,h10,h16,_,hneeds⟩:=right_fit hr
      have hpd:=ref16_put d (by omega) (fun t ht => by have:=hneeds t ht; omega) (by omega) (dag_N hdm)
      have hpl:=putsP_len (metaPr w++(w.dags.take i).map dagPr) []
      simp only [List.length_append,List.length_map,List.length_take,List.length_nil] at hpl
      have hwt:=with_st st (putsP [] (metaPr w++(w.dags.take i).map dagPr)) ([100]++d.name) (dagB d) (by omega)
      have e5:withP ([100]++d.name) (dagB d) false (putsP [] (metaPr w++(w.dags.take i).map dagPr))=putsP [] (metaPr w++(w.dags.take (i+1)).map dagPr):=by
        rw [htk,← List.append_assoc,putsP_snoc]; rfl
      rw [e5] at hwt
      have n0:(0:Nat)≠n:=by omega
      simp (maxSteps:=1000000) (disch:=omega) only [rg,gD,simprocAttr,show (i:Int) < w.dags.length by omega,mv_get hi,← hd,Int.toNat_natCast,getC_dags,setC_dag0,dagV]
      refine ⟨by omega, ?_⟩
      unfold dagV at hpd
      refine ⟨_,hpd, ?_⟩
      simp (maxSteps:=1000000) (disch:=omega) only [rg,gD,simprocAttr]
      refine ⟨_,hwt, ?_⟩
      simp (maxSteps:=1000000) (disch:=omega) only [rg,gD,simprocAttr]
      exact hN _ _ hi ⟨by show 1≤n+1; omega,(by simp (disch:=omega) only [upd_eq,upd_ne,wo_0,wo_1,wo_2,e0]),.loose,rfl⟩
    · simp (maxSteps:=1000000) (disch:=omega) only [rg,gD,simprocAttr,show ¬ (i:Int) < w.dags.length by omega]
      refine hX _ _ _ ?_
      simp (maxSteps:=1000000) (disch:=omega) only [rg,gD,simprocAttr]
      obtain rfl:i=w.dags.length:=by omega
      rw [List.take_length]
      clear hN hX hR
      refine x_frz0 ?_
      simp (maxSteps:=1000000) (disch:=omega) only [rg,gD,simprocAttr,e0,getC_wrs2,mv_len]
      have hbl:(putsP [] (metaPr w++w.dags.map dagPr)).length≤17:=by
        have:=putsP_len (metaPr w++w.dags.map dagPr) []
        simp only [List.length_append,List.length_map,List.length_nil] at this; omega
      have hS:rowsS w=putsP (putsP [] (metaPr w++w.dags.map dagPr)) (runsPr w.runs):=by
        unfold rowsS; rw [← List.append_assoc,putsP_app]
      rw [hS]
      generalize putsP [] (metaPr w++w.dags.map dagPr)=base at hbl ⊢
      refine x_it w.runs.length (fun j σ H => ∃ st,σ=[(3,.fsl st 2 (mv prV (putsP base (runsPr (w.runs.take j))))),(46,.fsl .loose 5 (mv rnV w.runs)),(47,.int .i64 (w.runs.length:Int)),(48,.int .i64 (j:Int))]) ⟨st,by simp [runsPr,putsP]⟩ ?_
      clear e0 hn hi hii hS
      clear n m st
      rintro T j σ ⟨n,m⟩ hjj ⟨st,rfl⟩ hN hX hR
      by_cases hj:j < w.runs.length
      · obtain ⟨r,hr⟩:∃ r,r=w.runs[j]:=⟨_,rfl⟩
        have hmem:r∈w.runs:=hr ▸ List.getElem_mem hj
        have hrr:=(hw.runs r hmem).2
        have hst:=hfew r hmem
        have htk:=runsPr_take hj
        have hpl:=runsPr_len (l:=w.runs.take j) (fun x hx => hfew x (List.mem_of_mem_take hx))
        rw [List.length_take] at hpl
        have hpl2:=putsP_len (runsPr (w.runs.take j)) base
        rw [← hr] at htk
        have hkl:=hrr.name.2
        have hnl:=dag_nl hrr.dag
        have tl:=textS_len r.dag.name
        have his:r.is≤9223372036854775807:=by have:=hrr.kind; unfold kindS at this; (repeat' split at this)<;>omega
        have p1:=putS_len r.is 1
        have hwt:=with_st st (putsP base (runsPr (w.runs.take j))) ([114]++r.key) ((putS r.is 1).1++(textS r.dag.name).1) (by omega)
        have e5:withP ([114]++r.key) ((putS r.is 1).1++(textS r.dag.name).1) false (putsP base (runsPr (w.runs.take j)))=putsP base (runsPr (w.runs.take j)++(runPr r::sttsPr r 0)):=by
          rw [show runsPr (w.runs.take j)++(runPr r::sttsPr r 0)=runsPr (w.runs.take j)++[runPr r] by simp [sttsPr],putsP_snoc]; rfl
        rw [e5] at hwt
        simp (maxSteps:=1000000) (disch:=omega) only [rg,gD,simprocAttr,show (j:Int) < w.runs.length by omega,mv_get hj,← hr,Int.toNat_natCast,getC_runs,setC_rn0,rnV]
        refine ⟨_,ref_text r.dag.name (by omega), ?_⟩
        simp (maxSteps:=1000000) (disch:=omega) only [rg,gD,simprocAttr,sV]
        refine ⟨by omega, ?_⟩
        refine ⟨_,ref21_number r.is 1 his, ?_⟩
        simp (maxSteps:=1000000) (disch:=omega) only [rg,gD,simprocAttr]
        refine ⟨by omega, ?_⟩
        refine ⟨_,hwt, ?_⟩
        simp (maxSteps:=1000000) (disch:=omega) only [rg,gD,simprocAttr,sttsV,mv_len]
        refine x_it r.states.length (fun i σ H => n+1≤H.n∧H.m n=some (.arr 5 [.agg [.str r.key,.str r.dag.name,tasksV r.dag.tasks,.int .i64 r.is,.fsl .loose 5 (mv sttV r.states)]]) ∧
          (∃ st,σ=[(3,.fsl st 2 (mv prV (putsP base (runsPr (w.runs.take j)++(runPr r::sttsPr r i))))),(7,.ptr n 0 0),(46,.fsl .loose 5 (mv rnV w.runs)),(47,.int .i64 (w.runs.length:Int)),(48,.int .i64 (j:Int)),(70,.fsl .loose 5 (mv sttV r.states)),(71,.int .i64 (r.states.length:Int)),(72,.int .i64 (i:Int))]))
          ⟨Nat.le_refl _,(by simp (disch:=omega) only [upd_eq,upd_ne,wo_0,wo_1,wo_2]),.loose,rfl⟩ ?_
        clear hwt e5
        clear st m
        rintro T2 i σ ⟨n2,m⟩ hii ⟨hn2,b0,st,rfl⟩ hN2 hX2 hR2
        simp only at hn2 b0
        by_cases hi:i < r.states.length
        · obtain ⟨s,hs⟩:∃ s,s=r.states[i]:=⟨_,rfl⟩
          have hsm:s∈r.states:=hs ▸ List.getElem_mem hi
          have hstd:=hrr.stands s hsm
          have hsk:=sttsPr_succ r i hi
          rw [← hs] at hsk
          have htp:=ref_stput s (by have:=(standsS_iff s).1 hstd; omega) (i64_of s hstd)
          have p2:=putS_len i 1
          have hpl3:=putsP_len (runsPr (w.runs.take j)++(runPr r::sttsPr r i)) base
          simp only [List.length_append,List.length_cons,sttsPr_len] at hpl3
          have hwt:=with_st st (putsP base (runsPr (w.runs.take j)++(runPr r::sttsPr r i))) (([116]++r.key)++(putS i 1).1) (stBytes s) (by omega)
          have e5:withP (([116]++r.key)++(putS i 1).1) (stBytes s) false (putsP base (runsPr (w.runs.take j)++(runPr r::sttsPr r i)))=putsP base (runsPr (w.runs.take j)++(runPr r::sttsPr r (i+1))):=by
            rw [hsk,show runsPr (w.runs.take j)++(runPr r::(sttsPr r i++[sttPr r i s]))=(runsPr (w.runs.take j)++(runPr r::sttsPr r i))++[sttPr r i s] by simp,putsP_snoc]; rfl
          rw [e5] at hwt
          have m2:n≠n2:=by omega
          simp (maxSteps:=1000000) (disch:=omega) only [rg,gD,simprocAttr,show (i:Int) < r.states.length by omega,mv_get hi,← hs,Int.toNat_natCast,sttV,b0]
          refine ⟨by omega, ?_⟩
          refine ⟨_,ref21_number i 1 (by omega), ?_⟩
          simp (maxSteps:=1000000) (disch:=omega) only [rg,gD,simprocAttr]
          refine ⟨by omega, ?_⟩
          unfold sttV at htp
          refine ⟨_,htp, ?_⟩
          simp (maxSteps:=1000000) (disch:=omega) only [rg,gD,simprocAttr]
          simp only [List.append_assoc,List.singleton_append,List.cons_append,List.nil_append] at hwt
          refine ⟨_,hwt, ?_⟩
          simp (maxSteps:=1000000) (disch:=omega) only [rg,gD,simprocAttr]
          exact hN2 _ _ hi ⟨by show n+1≤n2+1; omega,(by simp (disch:=omega) only [upd_eq,upd_ne,wo_0,wo_1,wo_2,b0]),.loose,rfl⟩
        · obtain rfl:i=r.states.length:=by omega
          simp (maxSteps:=1000000) (disch:=omega) only [rg,gD,simprocAttr,Int.lt_irrefl]
          refine hX2 _ _ _ ?_
          simp (maxSteps:=1000000) (disch:=omega) only [rg,gD,simprocAttr]
          refine x_frz0 ?_
          simp (maxSteps:=1000000) (disch:=omega) only [rg,gD,simprocAttr]
          refine hN _ _ hj ⟨st, ?_⟩
          rw [htk]; rfl
      · simp (maxSteps:=1000000) (disch:=omega) only [rg,gD,simprocAttr,show ¬ (j:Int) < w.runs.length by omega]
        refine hX _ _ _ ?_
        simp (maxSteps:=1000000) (disch:=omega) only [rg,gD,simprocAttr]
        obtain rfl:j=w.runs.length:=by omega
        rw [List.take_length]
        refine x_frz0 ?_
        simp (maxSteps:=1000000) (disch:=omega) only [rg,gD,simprocAttr]
        (refine fin_x rfl ?_ ?_<;>simp [pack,lo,loL,V.closed,closedL,mv_closed,prsV,prV_closed,mv_lo prV_lo])
end
def c25:C :=
  (.seq
 (.reg false [p (.box 4 (.v 0)),
 p (.alloc 4 (.agg [.int .i64 0,.int .i64 0,.fsl .nil 2 [],.fsl .nil 5 []]))] [(1,.r 1),(2,.r 0)])
 (.seq
 (.reg true [p (.fad 2 (.v 1)),
 p (.load (none) (.r 0)),
 p (.fad 2 (.v 1)),
 p (.load (none) (.r 0)),
 p (.len false (.r 0)),
 p (.mnx false (.r 0) [.k (.int .i64 20)]),
 p (.slc 2 (.r 4) none (some (.r 0)) none),
 p (.fad 3 (.v 1)),
 p (.load (none) (.r 0)),
 p (.fad 3 (.v 1)),
 p (.load (none) (.r 0)),
 p (.len false (.r 0)),
 p (.mnx false (.r 0) [.k (.int .i64 70)]),
 p (.slc 5 (.r 4) none (some (.r 0)) none),
 p (.fad 2 (.v 1)),
 ⟨.store (none) (.r 0) (.r 8),none,[1]⟩,
 p (.fad 3 (.v 1)),
 p (.store (none) (.r 0) (.r 3))] [(1,.v 1),(2,.v 2)])
 (.seq
 (.seq
 (.reg false [p (.fad 2 (.v 1)),
 p (.load (none) (.r 0)),
 p (.len false (.r 0)),
 p (.mov (.k (.int .i64 0)))] [(1,.v 1),(2,.v 2),(24,.r 2),(25,.r 1),(26,.r 0)])
 (.block 0
 (.loop
 (.seq
 (.reg false [p (.bin .lss (.v 26) (.v 25))] [(1,.v 1),(2,.v 2),(24,.v 24),(25,.v 25),(26,.v 26),(27,.r 0)])
 (.seq
 (.cond (.v 27)
 .skip
 (.exit 0))
 (.seq
 (.block 1
 (.seq
 (.reg false [p (.iad 2 (.v 24) (.v 26)),
 p (.load (some 2) (.r 0)),
 p (.alloc 2 (.agg [.str [],.fsl .nil 4 []])),
 p (.store (some 2) (.r 0) (.r 1))] [(1,.v 1),(2,.v 2),(4,.r 1),(24,.v 24),(25,.v 25),(26,.v 26)])
 (.seq
 (.reg false [p (.fad 1 (.v 4)),
 p (.load (none) (.r 0)),
 p (.len false (.r 0)),
 p (.bin .gtr (.r 0) (.k (.int .i64 20)))] [(1,.v 1),(2,.v 2),(24,.v 24),(25,.v 25),(26,.v 26),(33,.r 0)])
 (.cond (.v 33)
 (.seq
 (.reg false [p (.build [.int .i64 0,.int .i64 0,.fsl .nil 2 [],.fsl .nil 5 []] []),
 p (.store (some 4) (.v 2) (.r 0))] [(2,.v 2)])
 .ret)
 .skip))))
 (.reg false [p (.bin .add (.v 26) (.k (.int .i64 1))),
 p (.mov (.r 0))] [(1,.v 1),(2,.v 2),(24,.v 24),(25,.v 25),(26,.r 0)])))))))
 (.frz
 (.seq
 (.seq
 (.reg false [p (.fad 3 (.v 1)),
 p (.load (none) (.r 0)),
 p (.len false (.r 0)),
 p (.mov (.k (.int .i64 0)))] [(1,.v 1),(2,.v 2),(37,.r 2),(38,.r 1),(39,.r 0)])
 (.block 2
 (.loop
 (.seq
 (.reg false [p (.bin .lss (.v 39) (.v 38))] [(1,.v 1),(2,.v 2),(37,.v 37),(38,.v 38),(39,.v 39),(40,.r 0)])
 (.seq
 (.cond (.v 40)
 .skip
 (.exit 2))
 (.seq
 (.block 3
 (.seq
 (.reg false [p (.iad 5 (.v 37) (.v 39)),
 p (.load (some 5) (.r 0)),
 p (.alloc 5 (.agg [.str [],.str [],.fsl .nil 4 [],.int .i64 0,.fsl .nil 5 []])),
 p (.store (some 5) (.r 0) (.r 1))] [(1,.v 1),(2,.v 2),(6,.r 1),(37,.v 37),(38,.v 38),(39,.v 39)])
 (.seq
 (.reg false [p (.fad 4 (.v 6)),
 p (.load (none) (.r 0)),
 p (.len false (.r 0)),
 p (.bin .gtr (.r 0) (.k (.int .i64 20))),
 p (.mov (.r 0)),
 ⟨.fad 1 (.v 6),some (0,false),[]⟩,
 ⟨.fad 1 (.r 0),some (1,false),[]⟩,
 ⟨.load (none) (.r 0),some (2,false),[]⟩,
 ⟨.len false (.r 0),some (3,false),[]⟩,
 ⟨.bin .gtr (.r 0) (.k (.int .i64 20)),some (4,false),[]⟩,
 p (.pick (.r 5) (.k (.bool true)) (.r 0))] [(1,.v 1),(2,.v 2),(37,.v 37),(38,.v 38),(39,.v 39),(53,.r 0)])
 (.cond (.v 53)
 (.seq
 (.reg false [p (.build [.int .i64 0,.int .i64 0,.fsl .nil 2 [],.fsl .nil 5 []] []),
 p (.store (some 4) (.v 2) (.r 0))] [(2,.v 2)])
 .ret)
 .skip))))
 (.reg false [p (.bin .add (.v 39) (.k (.int .i64 1))),
 p (.mov (.r 0))] [(1,.v 1),(2,.v 2),(37,.v 37),(38,.v 38),(39,.r 0)])))))))
 (.frz
 (.seq
 (.reg false [p (.load (some 4) (.v 1)),
 p (.store (some 4) (.v 2) (.r 0))] [(2,.v 2)])
 .ret)))))))
def r25:List RV:=[.c 2 (some 4)]
theorem en25:EnP Tryz.prog 25 57 c25 r25:=mkEnP (by kernel_rfl) Tryz.func25 (by kernel_rfl) ⟨_,rfl,by kernel_rfl,by kernel_rfl⟩
def c27:C :=
  (.seq
 (.reg false [p (.mov (.k (.bool false)))] [])
 (.seq
 (.reg false [p (.build [.int .i64 0,.int .i64 0,.fsl .nil 2 [],.fsl .nil 5 []] [(0,1,.k (.int .i64 5))]),
 p (.call true (.k (.fn 26 [] [])) [.r 0]),
 p (.mov (.r 0)),
 p (.ext (.r 0) 0),
 p (.ext (.r 1) 1),
 p (.mov (.r 1)),
 p (.mov (.r 1))] [(1,.r 1),(2,.r 0)])
 (.seq
 (.reg false [p (.mov (.v 2)),
 p (.bin .eql (.r 0) (.k (.int .i64 0))),
 p (.mov (.r 0)),
 ⟨.mov (.v 1),some (0,true),[]⟩,
 ⟨.len false (.r 0),some (1,true),[]⟩,
 ⟨.bin .eql (.r 0) (.k (.int .i64 1)),some (2,true),[]⟩,
 p (.pick (.r 3) (.r 0) (.k (.bool false))),
 p (.mov (.r 0)),
 ⟨.mov (.v 1),some (0,true),[]⟩,
 ⟨.iad 2 (.r 0) (.k (.int .i64 0)),some (1,true),[]⟩,
 ⟨.fad 0 (.r 0),some (2,true),[]⟩,
 ⟨.load (none) (.r 0),some (3,true),[]⟩,
 ⟨.bin .eql (.r 0) (.k (.str [109])),some (4,true),[]⟩,
 p (.pick (.r 5) (.r 0) (.k (.bool false))),
 p (.mov (.r 0))] [(0,.r 0)])
 .ret)))
def r27:List RV:=[.t 0]
theorem en27:EnP Tryz.prog 27 22 c27 r27:=mkEnP (by kernel_rfl) Tryz.func27 (by kernel_rfl) ⟨_,rfl,by kernel_rfl,by kernel_rfl⟩
def c9:C :=
  (.seq
 (.reg false [p (.box 4 (.v 0)),
 p (.mov (.k (.bool false)))] [(1,.r 1)])
 (.seq
 (.reg false [p (.load (some 4) (.v 1)),
 p (.call true (.k (.fn 25 [] [])) [.r 0]),
 p (.store (some 4) (.v 1) (.r 0))] [(1,.v 1)])
 (.seq
 (.reg false [p (.load (some 4) (.v 1)),
 p (.call true (.k (.fn 26 [] [])) [.r 0]),
 p (.mov (.r 0)),
 p (.ext (.r 0) 0),
 p (.ext (.r 1) 1),
 p (.mov (.r 1)),
 p (.mov (.r 1))] [(1,.v 1),(3,.r 1),(4,.r 0)])
 (.seq
 (.seq
 (.reg false [p (.load (some 4) (.v 1)),
 p (.call true (.k (.fn 18 [] [])) [.r 0]),
 p (.un .not (.r 0))] [(1,.v 1),(3,.v 3),(4,.v 4),(14,.r 0)])
 (.cond (.v 14)
 (.seq
 (.reg false [p (.call true (.k (.fn 27 [] [])) []),
 p (.mov (.r 0)),
 ⟨.mov (.v 4),some (0,true),[]⟩,
 ⟨.bin .eql (.r 0) (.k (.int .i64 1)),some (1,true),[]⟩,
 p (.pick (.r 2) (.r 0) (.k (.bool false))),
 p (.mov (.r 0)),
 ⟨.mov (.v 3),some (0,true),[]⟩,
 ⟨.len false (.r 0),some (1,true),[]⟩,
 ⟨.bin .eql (.r 0) (.k (.int .i64 0)),some (2,true),[]⟩,
 p (.pick (.r 3) (.r 0) (.k (.bool false))),
 p (.mov (.r 0))] [(2,.r 0)])
 .ret)
 .skip))
 (.seq
 (.reg false [p (.call true (.k (.fn 27 [] [])) []),
 p (.mov (.r 0)),
 ⟨.mov (.v 4),some (0,true),[]⟩,
 ⟨.bin .eql (.r 0) (.k (.int .i64 0)),some (1,true),[]⟩,
 p (.pick (.r 2) (.r 0) (.k (.bool false))),
 p (.mov (.r 0)),
 ⟨.mov (.v 3),some (0,true),[]⟩,
 ⟨.load (some 4) (.v 1),some (1,true),[]⟩,
 ⟨.call true (.k (.fn 29 [] [])) [.r 0],some (2,true),[]⟩,
 ⟨.call true (.k (.fn 28 [] [])) [.r 2,.r 0],some (3,true),[]⟩,
 p (.pick (.r 4) (.r 0) (.k (.bool false))),
 p (.mov (.r 0))] [(2,.r 0)])
 .ret)))))
def r9:List RV:=[.t 2]
theorem en9:EnP Tryz.prog 9 36 c9 r9:=mkEnP (by kernel_rfl) Tryz.func9 (by kernel_rfl) ⟨_,rfl,by kernel_rfl,by kernel_rfl⟩
theorem law_few21 (w:Wd) (h:WdA w):PCall Tryz.prog 25 [wdV w] (wdV (fewS w)):=by
  refine en25 (by simp) (by simp [closedL,wdV_closed]) ?_
  have h1:=h.dags
  have h2:=h.runs
  have e1:(cutW w).dags=w.dags.take 20:=rfl
  have e2:(cutW w).runs=w.runs.take 70:=rfl
  have d1:List.take (min (w.dags.length:Int) 20).toNat (mv dagV w.dags)=mv dagV (cutW w).dags:=by
    rw [mv_take,e1]; congr 1
    by_cases c:w.dags.length≤20
    · rw [List.take_of_length_le (by omega),List.take_of_length_le c]
    · rw [show (min (w.dags.length:Int) 20).toNat=20 by omega]
  have r1:List.take (min (w.runs.length:Int) 70).toNat (mv rnV w.runs)=mv rnV (cutW w).runs:=by
    rw [mv_take,e2]; congr 1
    by_cases c:w.runs.length≤70
    · rw [List.take_of_length_le (by omega),List.take_of_length_le c]
    · rw [show (min (w.runs.length:Int) 70).toNat=70 by omega]
  have sl:∀ a b,slSt .loose a b none=.loose:=fun _ _ => rfl
  have hD:(cutW w).dags.length≤20:=by rw [e1]; simp; omega
  have hR:(cutW w).runs.length≤70:=by rw [e2]; simp; omega
  have hfew:fewS w=if (cutW w).dags.any bigD=true then zW else if (cutW w).runs.any bigR=true then zW else cutW w:=rfl
  have hcut:wdV (cutW w)=V.agg [V.int .i64 w.now,V.int .i64 w.token,V.fsl .loose 2 (mv dagV (cutW w).dags),V.fsl .loose 5 (mv rnV (cutW w).runs)]:=rfl
  generalize (cutW w).dags=D at d1 hD hfew hcut
  generalize (cutW w).runs=U at r1 hR hfew hcut
  simp (maxSteps:=1000000) (disch:=omega) only [rg,gD,simprocAttr,c25,wdV,mv_len,d1,r1,sl]
  refine ⟨⟨by omega,by omega,by omega⟩,⟨by omega,by omega,by omega⟩,by simp [compat,disj,nthL], ?_⟩
  refine x_it D.length (fun k σ H => 2≤H.n∧H.m 0=some (.arr 4 [wdV (cutW w)])∧H.m 1=some (.arr 4 [V.agg [V.int .i64 0,V.int .i64 0,V.fsl .nil 2 [],V.fsl .nil 5 []]])∧(D.any bigD=(D.drop k).any bigD) ∧
    σ=[(1,.ptr 0 0 0),(2,.ptr 1 0 0),(24,.fsl .loose 2 (mv dagV D)),(25,.int .i64 (D.length:Int)),(26,.int .i64 (k:Int))]) ⟨Nat.le_refl 2,by rw [hcut]; exact (by simp (disch:=omega) only [upd_eq,upd_ne,wo_0,wo_1,wo_2]),(by simp (disch:=omega) only [upd_eq,upd_ne,wo_0,wo_1,wo_2]),rfl,by rfl⟩ ?_
  rintro T k σ ⟨n,m⟩ hkk ⟨hn,e0,f1,hs,rfl⟩ hN hX hR'
  simp only at hn e0 f1
  rw [hcut] at e0
  by_cases hk:k < D.length
  · rw [any_drop hk] at hs
    by_cases c:20 < D[k].tasks.length
    · have hb:bigD D[k]=true:=by simp [bigD,c]
      rw [hb,Bool.true_or] at hs
      have hres:fewS w=zW:=by rw [hfew,if_pos hs]
      simp (maxSteps:=1000000) (disch:=omega) only [rg,gD,simprocAttr,show (k:Int) < D.length by omega,mv_get hk,getC_dags,Int.toNat_natCast,dagV,tasksV,mv_len,show (20:Int) < D[k].tasks.length by omega,f1]
      refine hR' _ _ ?_
      refine fin_x (by simp (disch:=omega) only [r25,resE,find,loadO,upd_eq,upd_ne,reduceIte,Nat.reduceEqDiff]; rfl) ?_ ?_<;>simp [pack,lo,loL,V.closed,closedL,mv_closed,wdV,zW,mv_nil,mv_lo dagV_lo,mv_lo rnV_lo,mv_closed dagV_closed,rnV_closed,hres]
    · have hb:bigD D[k]=false:=by simp [bigD]; omega
      rw [hb,Bool.false_or] at hs
      simp (maxSteps:=1000000) (disch:=omega) only [rg,gD,simprocAttr,show (k:Int) < D.length by omega,mv_get hk,getC_dags,Int.toNat_natCast,dagV,tasksV,mv_len,show ¬ (20:Int) < D[k].tasks.length by omega,f1]
      exact hN _ _ hk ⟨by simp only []; omega,(by simp (disch:=omega) only [upd_eq,upd_ne,wo_0,wo_1,wo_2,e0,hcut]),(by simp (disch:=omega) only [upd_eq,upd_ne,wo_0,wo_1,wo_2,f1]),hs,rfl⟩
  · obtain rfl:k=D.length:=by omega
    rw [List.drop_length] at hs
    have hs':¬ D.any bigD=true:=by rw [hs]; simp
    rw [if_neg hs'] at hfew
    simp (maxSteps:=1000000) (disch:=omega) only [rg,gD,simprocAttr,Int.lt_irrefl]
    refine hX _ _ _ ?_
    simp (maxSteps:=1000000) (disch:=omega) only [rg,gD,simprocAttr]
    refine x_frz0 ?_
    simp (maxSteps:=1000000) (disch:=omega) only [rg,gD,simprocAttr,e0,mv_len]
    refine x_it U.length (fun k σ H => 2≤H.n∧H.m 0=some (.arr 4 [wdV (cutW w)])∧H.m 1=some (.arr 4 [V.agg [V.int .i64 0,V.int .i64 0,V.fsl .nil 2 [],V.fsl .nil 5 []]])∧(U.any bigR=(U.drop k).any bigR) ∧
      σ=[(1,.ptr 0 0 0),(2,.ptr 1 0 0),(37,.fsl .loose 5 (mv rnV U)),(38,.int .i64 (U.length:Int)),(39,.int .i64 (k:Int))]) ⟨hn,by rw [hcut]; exact e0,f1,rfl,by rfl⟩ ?_
    clear hN hX hR' hs T
    rintro T k σ ⟨n,m⟩ hkk ⟨hn,e0,f1,hs,rfl⟩ hN hX hR'
    simp only at hn e0 f1
    rw [hcut] at e0
    by_cases hk:k < U.length
    · rw [any_drop hk] at hs
      by_cases c1:20 < U[k].states.length
      · have hb:bigR U[k]=true:=by simp [bigR,c1]
        rw [hb,Bool.true_or] at hs
        have hres:fewS w=zW:=by rw [hfew,if_pos hs]
        simp (maxSteps:=1000000) (disch:=omega) only [rg,gD,simprocAttr,show (k:Int) < U.length by omega,mv_get hk,getC_runs,Int.toNat_natCast,rnV,sttsV,tasksV,mv_len,show (20:Int) < U[k].states.length by omega,f1]
        refine hR' _ _ ?_
        refine fin_x (by simp (disch:=omega) only [r25,resE,find,loadO,upd_eq,upd_ne,reduceIte,Nat.reduceEqDiff]; rfl) ?_ ?_<;>simp [pack,lo,loL,V.closed,closedL,mv_closed,wdV,zW,mv_nil,mv_lo dagV_lo,mv_lo rnV_lo,mv_closed dagV_closed,rnV_closed,hres]
      by_cases c2:20 < U[k].dag.tasks.length
      · have hb:bigR U[k]=true:=by simp [bigR,c2]
        rw [hb,Bool.true_or] at hs
        have hres:fewS w=zW:=by rw [hfew,if_pos hs]
        simp (maxSteps:=1000000) (disch:=omega) only [rg,gD,simprocAttr,show (k:Int) < U.length by omega,mv_get hk,getC_runs,Int.toNat_natCast,rnV,sttsV,tasksV,mv_len,show ¬ (20:Int) < U[k].states.length by omega,show (20:Int) < U[k].dag.tasks.length by omega,f1]
        refine hR' _ _ ?_
        refine fin_x (by simp (disch:=omega) only [r25,resE,find,loadO,upd_eq,upd_ne,reduceIte,Nat.reduceEqDiff]; rfl) ?_ ?_<;>simp [pack,lo,loL,V.closed,closedL,mv_closed,wdV,zW,mv_nil,mv_lo dagV_lo,mv_lo rnV_lo,mv_closed dagV_closed,rnV_closed,hres]
      have hb:bigR U[k]=false:=by simp [bigR]; omega
      rw [hb,Bool.false_or] at hs
      simp (maxSteps:=1000000) (disch:=omega) only [rg,gD,simprocAttr,show (k:Int) < U.length by omega,mv_get hk,getC_runs,Int.toNat_natCast,rnV,sttsV,tasksV,mv_len,show ¬ (20:Int) < U[k].states.length by omega,show ¬ (20:Int) < U[k].dag.tasks.length by omega,f1]
      exact hN _ _ hk ⟨by simp only []; omega,(by simp (disch:=omega) only [upd_eq,upd_ne,wo_0,wo_1,wo_2,e0,hcut]),(by simp (disch:=omega) only [upd_eq,upd_ne,wo_0,wo_1,wo_2,f1]),hs,rfl⟩
    · obtain rfl:k=U.length:=by omega
      rw [List.drop_length] at hs
      have hs':¬ U.any bigR=true:=by rw [hs]; simp
      rw [if_neg hs'] at hfew
      simp (maxSteps:=1000000) (disch:=omega) only [rg,gD,simprocAttr,Int.lt_irrefl]
      refine hX _ _ _ ?_
      simp (maxSteps:=1000000) (disch:=omega) only [rg,gD,simprocAttr]
      refine x_frz0 ?_
      simp (maxSteps:=1000000) (disch:=omega) only [rg,gD,simprocAttr,e0,f1]
      have hfw:V.agg [V.int .i64 (fewS w).now,V.int .i64 (fewS w).token,V.fsl .loose 2 (mv dagV (fewS w).dags),V.fsl .loose 5 (mv rnV (fewS w).runs)]=wdV (fewS w):=rfl
      rw [hfw,hfew,hcut]
      refine fin_x (by simp (disch:=omega) only [r25,resE,find,loadO,upd_eq,upd_ne,reduceIte,Nat.reduceEqDiff]; rfl) ?_ ?_<;>simp [pack,lo,loL,V.closed,closedL,mv_closed,wdV,zW,mv_nil,mv_lo dagV_lo,mv_lo rnV_lo,mv_closed dagV_closed,rnV_closed]
theorem eqF_pr (p q:Pr):eqF [1,1] [.str p.1,.str p.2] [.str q.1,.str q.2]=some (decide (p=q)):=by
  obtain ⟨a,b⟩:=p; obtain ⟨c,d⟩:=q
  simp [eqF,Prod.mk.injEq]
theorem like8 (st st':St) (a b:List Pr) (ha:a.length≤100000) (hb:b.length≤100000):PCall Tryz.prog 28 [.fsl st 2 (mv prV a),.fsl st' 2 (mv prV b)] (.bool (decide (a=b))):=by
  refine en28 (by simp) (by simp [closedL,V.closed,mv_closed prV_closed]) ?_
  simp (maxSteps:=1000000) (disch:=omega) only [rg,gD,simprocAttr,c28,mv_len]
  by_cases c:a.length=b.length
  case neg =>
    have hne:a≠b:=fun e => c (by rw [e])
    simp (maxSteps:=1000000) (disch:=omega) only [rg,gD,simprocAttr,show ¬ (a.length:Int)=b.length by omega]
    (refine fin_x rfl ?_ ?_<;>simp [pack,lo,loL,V.closed,closedL,mv_closed,hne])
  simp (maxSteps:=1000000) (disch:=omega) only [rg,gD,simprocAttr,show (a.length:Int)=b.length by omega]
  refine x_it a.length (fun k σ H => a.take k=b.take k∧σ=[(0,.fsl st 2 (mv prV a)),(1,.fsl st' 2 (mv prV b)),(12,.int .i64 (a.length:Int)),(13,.int .i64 (k:Int))]) ⟨rfl,by simp [c]⟩ ?_
  rintro T k σ ⟨n,m⟩ hkk ⟨ht,rfl⟩ hN hX hR
  by_cases hk:k < a.length
  · have hk2:k < b.length:=by omega
    have e:(a.take (k+1)=b.take (k+1))↔a[k]=b[k]:=by
      rw [List.take_succ_eq_append_getElem hk,List.take_succ_eq_append_getElem hk2,ht]
      exact ⟨fun h => by simpa using List.append_cancel_left h,fun h => by rw [h]⟩
    by_cases h:a[k]=b[k]
    · simp (maxSteps:=1000000) (disch:=omega) only [rg,gD,simprocAttr,show (k:Int) < a.length by omega,mv_get hk,mv_get hk2,Int.toNat_natCast,getC_pr,prV,eqF_pr,decide_eq_true h]
      exact hN _ _ hk ⟨e.2 h,rfl⟩
    · have hne:a≠b:=fun e => h (by simp [e])
      simp (maxSteps:=1000000) (disch:=omega) only [rg,gD,simprocAttr,show (k:Int) < a.length by omega,mv_get hk,mv_get hk2,Int.toNat_natCast,getC_pr,prV,eqF_pr,decide_eq_false h]
      refine hR _ _ ?_
      simp (maxSteps:=1000000) (disch:=omega) only [rg,gD,simprocAttr]
      (refine fin_x rfl ?_ ?_<;>simp [pack,lo,loL,V.closed,closedL,mv_closed,hne])
  · obtain rfl:k=a.length:=by omega
    have hab:a=b:=by rw [List.take_length,c,List.take_length] at ht; exact ht
    simp (maxSteps:=1000000) (disch:=omega) only [rg,gD,simprocAttr,Int.lt_irrefl]
    refine hX _ _ _ ?_
    simp (maxSteps:=1000000) (disch:=omega) only [rg,gD,simprocAttr]
    refine x_frz0 ?_
    simp (maxSteps:=1000000) (disch:=omega) only [rg,gD,simprocAttr]
    (refine fin_x rfl ?_ ?_<;>simp [pack,lo,loL,V.closed,closedL,mv_closed,hab])
section
def w5W:Wd:=⟨5,0,[],[]⟩
theorem w5_WR:WR w5W:=by
  refine ⟨by simp [w5W,MT],by simp [w5W,MT],by simp [w5W],by simp [w5W], ?_, ?_,by simp [w5W],by simp [w5W],by simpa [w5W,toksR] using Tk.nil _⟩
  all_goals (intro i hi; simp [w5W,dagsN,runsN] at hi)
theorem w5_M:WdM w5W:=⟨⟨by simp [w5W],by simp [w5W],by simp [w5W],by simp [w5W]⟩,by simp [w5W]⟩
theorem w5_rows:rowsS w5W=[([109],(putS 5 6).1++(putS 0 6).1)]:=by simp [rowsS,w5W,metaPr,putsP,withP,runsPr]
open Classical in
theorem law_alive21:PCall Tryz.prog 27 [] (.bool true):=by
  refine en27 (by simp) (by simp [closedL]) ?_
  have h1:PCall Tryz.prog 26 [V.agg [.int .i64 5,.int .i64 0,.fsl .nil 2 [],.fsl .nil 5 []]] (.tup [.fsl .loose 2 [prV ([109],(putS 5 6).1++(putS 0 6).1)],.int .i64 0]):=by
    have:=rows_rows w5W w5_M
    rw [if_pos w5_WR,if_pos w5_WR,w5_rows] at this
    exact this.of_eq (by simp [wdV,w5W,loL,lo,mv_nil])
  simp (maxSteps:=1000000) (disch:=omega) only [rg,gD,simprocAttr,c27]
  refine ⟨_,h1, ?_⟩
  simp (maxSteps:=1000000) (disch:=omega) only [rg,gD,simprocAttr,prV]
  (refine fin_x rfl ?_ ?_<;>simp [pack,lo,loL,V.closed,closedL,mv_closed])
open Classical in
theorem law_lays (w:Wd) (h:WdA w):PCall Tryz.prog 9 [wdV w] (.bool true):=by
  refine en9 (by simp) (by simp [closedL,wdV_closed]) ?_
  have hf:=law_few21 w h
  have hm:=few_M h
  generalize fewS w=x at hf hm
  have h1:=rows_rows x hm
  have h2:=ref_wright x hm.ok
  simp (maxSteps:=1000000) (disch:=omega) only [rg,gD,simprocAttr,c9,getC_wd,setC_wd]
  refine ⟨⟨rfl,rfl⟩,_,hf, ?_⟩
  simp (maxSteps:=1000000) (disch:=omega) only [rg,gD,simprocAttr,getC_wd,setC_wd]
  refine ⟨_,h1, ?_⟩
  simp (maxSteps:=1000000) (disch:=omega) only [rg,gD,simprocAttr,getC_wd,setC_wd]
  refine ⟨_,h2, ?_⟩
  by_cases hw:WR x
  · rw [decide_eq_true hw,if_pos hw,if_pos hw]
    have h3:=ref_rows x hm hw
    have hl:(rowsS x).length≤100000:=by
      have:=(rows_ok hw).2.length_eq
      have h4:=runsPr_len hw.few
      have hML:(metaPr x).length≤1:=by unfold metaPr; split<;>simp
      have:=hw.ndags; have:=hw.nruns
      simp only [rowsL,List.length_append,List.length_map] at *; omega
    have h4:=like8 .loose .loose (rowsS x) (rowsS x) hl hl
    rw [decide_eq_true rfl] at h4
    simp (maxSteps:=1000000) (disch:=omega) only [rg,gD,simprocAttr]
    refine ⟨_,law_alive21, ?_⟩
    simp (maxSteps:=1000000) (disch:=omega) only [rg,gD,simprocAttr,getC_wd,setC_wd]
    refine ⟨_,h3, ?_⟩
    simp (maxSteps:=1000000) (disch:=omega) only [rg,gD,simprocAttr]
    refine ⟨_,h4, ?_⟩
    simp (maxSteps:=1000000) (disch:=omega) only [rg,gD,simprocAttr]
    (refine fin_x rfl ?_ ?_<;>simp [pack,lo,loL,V.closed,closedL,mv_closed])
  · rw [decide_eq_false hw,if_neg hw,if_neg hw]
    simp (maxSteps:=1000000) (disch:=omega) only [rg,gD,simprocAttr]
    refine ⟨_,law_alive21, ?_⟩
    simp (maxSteps:=1000000) (disch:=omega) only [rg,gD,simprocAttr,prsV,mv_nil]
    (refine fin_x rfl ?_ ?_<;>simp [pack,lo,loL,V.closed,closedL,mv_closed])
theorem row_lays (w:Wd) (h:WdA w):PCall Tryz.prog 9 [.agg [.int .i64 w.now,.int .i64 w.token,.fsl .loose 2 (mv dagV w.dags),.fsl .loose 5 (mv rnV w.runs)]] (.bool true) :=
  law_lays w h
end
end Go.Proofs.YtkdeckmglbnfbaaGreat.Ev
