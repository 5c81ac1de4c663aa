/-
  Part 6 of what the proof of the statement RowsFit leans on: the evaluator, the functions in compact form, and what they answer.
-/
import Derived.Test.YtkdeckmglbnfbaaGreatM5
set_option linter.unusedSimpArgs false
set_option linter.unusedVariables false
set_option maxRecDepth 10000
namespace Go.Proofs.YtkdeckmglbnfbaaGreat.Ev
open Go
def szP (p:Pr):Nat:=5+p.1.length+p.2.length
def szL:List Pr→Nat
  | [] => 0
  | p::l => szP p+szL l
theorem szL_app:∀ a b:List Pr,szL (a++b)=szL a+szL b
  | [],b => by simp [szL]
  | p::a,b => by simp only [List.cons_append,szL,szL_app a b]; omega
theorem szL_perm {a b:List Pr} (h:a.Perm b):szL a=szL b:=by
  induction h with
  | nil => rfl
  | cons p _ ih => simp only [szL,ih]
  | swap p q l => simp only [szL]; omega
  | trans _ _ h1 h2 => exact h1.trans h2
theorem szL_filter (q:Pr→Bool):∀ l:List Pr,szL (l.filter q)≤szL l
  | [] => Nat.le_refl _
  | p::l => by
    have:=szL_filter q l
    rw [List.filter_cons]; split<;>simp only [szL]<;>omega
theorem sz_len:∀ l:List Pr,l.length*5≤szL l
  | [] => Nat.le_refl _
  | p::l => by have:=sz_len l; simp only [List.length_cons,szL,szP]; omega
theorem diff_sub:∀ (X Y:List Pr),Srt X→Srt Y→(∀ p∈X,∃ q∈Y,q.1=p.1)→diffS X Y=(Y.filter fun q => decide (q∉X)).map setC'
  | [],[],_,_,_ => by rw [diff_nil]; rfl
  | p::X,[],_,_,h => by obtain ⟨q,hq,_⟩:=h p (by simp); cases hq
  | [],q::Y,hx,hy,h => by
    rw [diff_r,diff_sub [] Y hx (List.pairwise_cons.1 hy).2 (by simp)]
    simp
  | p::X,q::Y,hx,hy,h => by
    have hx':=List.pairwise_cons.1 hx
    have hy':=List.pairwise_cons.1 hy
    have c1:¬ ltS p.1 q.1=true:=fun c => by
      obtain ⟨r,hr,e⟩:=h p (by simp)
      rcases List.mem_cons.1 hr with rfl | hr
      · rw [e,lt_irr] at c; cases c
      · have:=lt_trans' c (hy'.1 r hr)
        rw [e,lt_irr] at this; cases this
    rw [diff_c,if_neg c1]
    by_cases c2:ltS q.1 p.1=true
    · rw [if_pos c2]
      have hq:q∉p::X:=fun hm => by
        rcases List.mem_cons.1 hm with rfl | hm
        · rw [lt_irr] at c2; cases c2
        · have:=lt_trans' c2 (hx'.1 q hm)
          rw [lt_irr] at this; cases this
      rw [List.filter_cons_of_pos (by simpa using hq),List.map_cons,diff_sub (p::X) Y hx hy'.2 fun r hr => ?_]
      obtain ⟨s,hs,e⟩:=h r hr
      rcases List.mem_cons.1 hs with rfl | hs
      · exfalso
        rcases List.mem_cons.1 hr with rfl | hr
        · rw [e,lt_irr] at c2; cases c2
        · have:=lt_trans' c2 (hx'.1 r hr)
          rw [e,lt_irr] at this; cases this
      · exact ⟨s,hs,e⟩
    · rw [if_neg c2]
      have e:p.1=q.1:=by
        rcases lt_tri p.1 q.1 with k | k | k
        · exact absurd k c1
        · exact k
        · exact absurd k c2
      have hf:(Y.filter fun r => decide (r∉p::X))=Y.filter fun r => decide (r∉X):=by
        refine List.filter_congr fun r hr => ?_
        have:r≠p:=fun e2 => by
          have:=hy'.1 r hr
          rw [e2,e,lt_irr] at this; cases this
        simp [this]
      have ih:=diff_sub X Y hx'.2 hy'.2 fun r hr => by
        obtain ⟨s,hs,e3⟩:=h r (by simp [hr])
        rcases List.mem_cons.1 hs with rfl | hs
        · have:=hx'.1 r hr
          rw [e,e3,lt_irr] at this; cases this
        · exact ⟨s,hs,e3⟩
      rw [ih,List.filter_cons,hf]
      by_cases c3:p.2=q.2
      · have:q=p:=Prod.ext e.symm c3.symm
        simp [c3,this]
      · have hq:q∉p::X:=fun hm => by
          rcases List.mem_cons.1 hm with rfl | hm
          · exact c3 rfl
          · have:=hx'.1 q hm
            rw [e,lt_irr] at this; cases this
        rw [if_pos c3,if_pos (show decide (q∉p::X)=true from decide_eq_true hq)]; rfl
termination_by X Y => X.length+Y.length
theorem chsB_sz:∀ l:List Pr,(∀ p∈l,p.1.length≤65535∧p.2.length≤65535)→(chsB (l.map setC')).length=szL l
  | [],_ => rfl
  | p::l,h => by
    obtain ⟨h1,h2⟩:=h p (by simp)
    have ih:=chsB_sz l fun q hq => h q (by simp [hq])
    have e:chsB ((p::l).map setC')=chB (setC' p)++chsB (l.map setC'):=rfl
    have e2:chB (setC' p)=[0]++((textS p.1).1++(textS p.2).1):=rfl
    rw [e,e2,textS_in h1,textS_in h2]
    simp only [List.length_append,beS_len,List.length_singleton,ih,szL,szP]; omega
theorem not_in {l X:List Pr} (h:∀ p∈l,p∈X):(l.filter fun q => decide (q∉X))=[]:=List.filter_eq_nil_iff.2 fun p hp => by simp [h p hp]
theorem meta_sz {w:Wd}:szL (metaPr w)≤18:=by
  have p1:=putS_len w.now 6
  have p2:=putS_len w.token 6
  have e6:(6:Int).toNat=6:=rfl
  unfold metaPr
  split
  · simp only [szL,szP,List.length_append,List.length_singleton]; omega
  · exact Nat.zero_le _
theorem run_sz {r:Rn} (h:RnR r):szP (runPr r)≤41:=by
  have h2:=dag_nl h.dag
  have h3:=h.name
  have p1:=putS_len1 r.is
  have p2:(textS r.dag.name).1.length=2+r.dag.name.length:=by rw [textS_in (by omega)]; simp [beS_len]
  simp only [szP,runPr,List.length_append,List.length_singleton]; omega
theorem stB_sz {s:Stt} (h:standsS s=true):(stBytes s).length=16+s.result.length:=by
  have hs:=(standsS_iff _).1 h
  have e1:(putS s.is 1).1.length=1:=put1_len' ⟨by omega,by omega⟩
  have e2:(putS s.tried 1).1.length=1:=put1_len' ⟨by omega,by omega⟩
  have e3:(putS s.due 6).1.length=6:=put6_len ⟨by omega,by unfold MT; omega⟩
  have e4:(putS s.token 6).1.length=6:=put6_len ⟨by omega,by unfold MT; omega⟩
  unfold stBytes
  rw [textS_in (by omega)]
  simp only [List.length_append,e1,e2,e3,e4,beS_len]; omega
theorem stts_sz {r:Rn} {X:List Pr} {k:Nat} (h:RnR r) (hk:∀ j (hj:j < r.states.length),j≠k→sttPr r j r.states[j]∈X∨r.states[j].is≠3):∀ n,n≤r.states.length→n≤255→szL ((sttsPr r n).filter fun q => decide (q∉X))≤n*39+(if k < n then 16 else 0)
  | 0,_,_ => by simp [sttsPr,szL]
  | n+1,hn,h255 => by
    have ih:=stts_sz h hk n (by omega) (by omega)
    have hj:n < r.states.length:=by omega
    have h3:=h.name
    have hst:=h.stands _ (List.getElem_mem hj)
    have hsz:=stB_sz hst
    have hs:=(standsS_iff _).1 hst
    have h5:=put1_len (show n < 256 by omega)
    have e2:szP (sttPr r n r.states[n])≤39+r.states[n].result.length:=by
      simp only [szP,sttPr,List.length_append,List.length_singleton,h5,hsz]; omega
    rw [sttsPr_succ r n hj,List.filter_append,szL_app,List.filter_cons,List.filter_nil]
    by_cases c:n=k
    · subst c
      rw [if_neg (Nat.lt_irrefl _)] at ih
      rw [if_pos (Nat.lt_succ_self _)]
      split
      · simp only [szL]; omega
      · simp only [szL]; omega
    · have e3:(if k < n+1 then 16 else 0)=(if k < n then 16 else 0):=by
        by_cases c2:k < n
        · rw [if_pos c2,if_pos (by omega)]
        · rw [if_neg c2,if_neg (by omega)]
      rw [e3]
      split
      · rename_i hx
        rcases hk n hj c with hm | hm
        · simp [hm] at hx
        · have hr0:r.states[n].result.length=0:=by
            rcases hs.2.2.2.2.2 with e | e
            · simp [e]
            · exact absurd e hm
          simp only [szL]; omega
      · simp only [szL]; omega
theorem runs_split_sz (a b:List Rn) (r:Rn) (X:List Pr) (h:∀ p∈runsPr a,p∈X) (h':∀ p∈runsPr b,p∈X):((runsPr (a++r::b)).filter fun q => decide (q∉X))=(runPrs r).filter fun q => decide (q∉X):=by
  have e:runsPr (a++r::b)=runsPr a++(runPrs r++runsPr b):=by simp [runsPr]
  rw [e,List.filter_append,List.filter_append,not_in h,not_in h',List.nil_append,List.append_nil]
theorem runsPr_mem {l:List Rn} {p:Pr}:p∈runsPr l↔∃ r∈l,p∈runPrs r:=by simp [runsPr,List.mem_flatMap]
theorem rowsL_runs {w:Wd} {l:List Rn} (h:∀ r∈l,r∈w.runs):∀ p∈runsPr l,p∈rowsL w:=fun p hp => by
  obtain ⟨r,hr,hp⟩:=runsPr_mem.1 hp
  exact List.mem_append_right _ (List.mem_append_right _ (runsPr_mem.2 ⟨r,h r hr,hp⟩))
theorem rowsL_dags {w:Wd} {l:List Dag} (h:∀ d∈l,d∈w.dags):∀ p∈l.map dagPr,p∈rowsL w:=fun p hp => by
  obtain ⟨d,hd,rfl⟩:=List.mem_map.1 hp
  exact List.mem_append_left _ (List.mem_map.2 ⟨d,h d hd,rfl⟩)
theorem stt_at {r:Rn} {j:Nat} (h:j < r.states.length):sttPr r j (r.states.getD j zS)=sttPr r j r.states[j]:=by
  rw [List.getD_eq_getElem?_getD,List.getElem?_eq_getElem h,Option.getD_some]
theorem one_run_sz {w x:Wd} (hw:WR w) (hx:WR x) {A B:List Rn} {r:Rn} {k:Nat} (hd:x.dags=w.dags) (hr:x.runs=A++r::B) (hA:∀ q∈A,q∈w.runs) (hB:∀ q∈B,q∈w.runs)
    (hk:∀ j (hj:j < r.states.length),j≠k→sttPr r j r.states[j]∈rowsS w∨r.states[j].is≠3):szL ((rowsL x).filter fun q => decide (q∉rowsS w))≤479:=by
  have hin:∀ p,p∈rowsL w→p∈rowsS w:=fun p hp => (rows_ok hw).2.mem_iff.2 hp
  have hrx:r∈x.runs:=by rw [hr]; simp
  have hR:=(hx.runs r hrx).2
  have hfew:=hx.few r hrx
  unfold rowsL
  rw [List.filter_append,List.filter_append,szL_app,szL_app,hd,not_in (fun p hp => hin p (rowsL_dags (fun _ h => h) p hp)),hr,
    runs_split_sz A B r (rowsS w) (fun p hp => hin p (rowsL_runs hA p hp)) (fun p hp => hin p (rowsL_runs hB p hp))]
  have h1:=szL_filter (fun q => decide (q∉rowsS w)) (metaPr x)
  have h2:=meta_sz (w:=x)
  have h3:=run_sz hR
  have h4:=stts_sz hR hk r.states.length (Nat.le_refl _) (by omega)
  have h5:(if k < r.states.length then 16 else 0)≤16:=by split<;>omega
  have h6:szL ((runPrs r).filter fun q => decide (q∉rowsS w))≤szP (runPr r)+szL ((sttsPr r r.states.length).filter fun q => decide (q∉rowsS w)):=by
    unfold runPrs
    rw [List.filter_cons]
    split
    · simp only [szL]; omega
    · omega
  simp only [szL]
  omega
theorem fit_sz {w:Wd} {c:Cmd} (hw:WR w):szL ((rowsL (kindW w c).1).filter fun q => decide (q∉rowsS w))≤479:=by
  have hx:=keeps w c hw
  have hf:=kind_fit w c hw
  have hin:∀ p,p∈rowsL w→p∈rowsS w:=fun p hp => (rows_ok hw).2.mem_iff.2 hp
  generalize (kindW w c).1=x at hx hf
  cases hf with
  | same h1 h2 =>
    unfold rowsL
    rw [List.filter_append,List.filter_append,szL_app,szL_app,h1,h2,not_in (fun p hp => hin p (rowsL_dags (fun _ h => h) p hp)),not_in (fun p hp => hin p (rowsL_runs (fun _ h => h) p hp))]
    have h3:=szL_filter (fun q => decide (q∉rowsS w)) (metaPr x)
    have h4:=meta_sz (w:=x)
    simp only [szL]; omega
  | graph d h =>
    have hdx:d∈x.dags:=by rw [h]; simp [putD]
    have hdr:=hx.dags d hdx
    have h1:=dagB_len200 hdr
    have h2:=dag_nl hdr
    have e1:metaPr x=metaPr w:=by rw [h]; rfl
    have e2:x.runs=w.runs:=by rw [h]
    have e3:x.dags=w.dags.take (lbD d.name w.dags)++d::w.dags.drop (lbD d.name w.dags):=by rw [h]; rfl
    unfold rowsL
    rw [List.filter_append,List.filter_append,e1,e2,not_in (l:=metaPr w) (fun p hp => hin p (List.mem_append_right _ (List.mem_append_left _ hp))),not_in (fun p hp => hin p (rowsL_runs (fun _ h => h) p hp)),e3,
      List.map_append,List.filter_append,not_in (l:=(w.dags.take _).map dagPr) (fun p hp => hin p (rowsL_dags (fun _ h => List.mem_of_mem_take h) p hp)),List.map_cons,List.filter_cons,
      not_in (l:=(w.dags.drop _).map dagPr) (fun p hp => hin p (rowsL_dags (fun _ h => List.mem_of_mem_drop h) p hp))]
    have h3:szP (dagPr d)≤222:=by simp only [szP,dagPr,List.length_append,List.length_singleton]; omega
    split
    · simp only [szL,List.append_nil,List.nil_append]; omega
    · simp [szL]
  | set j hj r k h1 h2 h3 =>
    have e:x.runs=w.runs.take j++r::w.runs.drop (j+1):=by rw [h2,List.set_eq_take_append_cons_drop,if_pos hj]
    refine one_run_sz (k:=k) hw hx h1 e (fun q hq => List.mem_of_mem_take hq) (fun q hq => List.mem_of_mem_drop hq) fun i hi n => ?_
    have hi':i < w.runs[j].states.length:=by rw [← h3.len]; exact hi
    rcases h3.each i hi' hi n with e2 | e2
    · left
      refine hin _ (rowsL_mem.2 (.inr (.inr ⟨w.runs[j],List.getElem_mem hj,.inr ⟨i,hi', ?_⟩⟩)))
      rw [stt_at hi',e2]
      simp only [sttPr,h3.key]
    · exact .inr e2
  | put r h1 h2 h3 h4 =>
    have e:x.runs=w.runs.take (lbR r.key w.runs)++r::w.runs.drop (lbR r.key w.runs):=by
      rw [h2]; unfold putR; rw [if_neg h3,Nat.add_zero]
    exact one_run_sz (k:=0) hw hx h1 e (fun q hq => List.mem_of_mem_take hq) (fun q hq => List.mem_of_mem_drop hq) fun i hi n => .inr (h4 _ (List.getElem_mem hi))
theorem fit_keys {w:Wd} {c:Cmd} (hw:WR w):∀ p∈rowsS w,∃ q∈rowsS (kindW w c).1,q.1=p.1:=by
  have hx:=keeps w c hw
  have hf:=kind_fit w c hw
  have hg:=kind_grow w c hw
  intro p hp
  rw [(rows_ok hw).2.mem_iff] at hp
  generalize (kindW w c).1=x at hx hf hg
  have out:∀ q,q∈rowsL x→q.1=p.1→∃ q∈rowsS x,q.1=p.1:=fun q h e => ⟨q,(rows_ok hx).2.mem_iff.2 h,e⟩
  have hmeta:∀ (_:p∈metaPr w),∃ q∈rowsS x,q.1=p.1:=fun hm => by
    obtain ⟨e,_,hpos⟩:=meta_first hm
    have c1:0 < x.now∨0 < x.token:=by
      have:=hg.1; have:=hg.2.1; omega
    refine out ([109],(putS x.now 6).1++(putS x.token 6).1) (rowsL_mem.2 (.inr (.inl ?_))) e.symm
    unfold metaPr; rw [if_pos c1]; simp
  rcases rowsL_mem.1 hp with ⟨d,hd,rfl⟩ | hm | ⟨r,hr,hpr⟩
  · cases hf with
    | same h1 h2 => exact out _ (rowsL_mem.2 (.inl ⟨d,h2 ▸ hd,rfl⟩)) rfl
    | graph d' h =>
      refine out (dagPr d) (rowsL_mem.2 (.inl ⟨d, ?_,rfl⟩)) rfl
      rw [h]
      show d∈w.dags.take _++d'::w.dags.drop _
      rw [← List.take_append_drop (lbD d'.name w.dags) w.dags,List.mem_append] at hd
      rcases hd with hd | hd<;>simp [hd]
    | set j hj r k h1 h2 h3 => exact out _ (rowsL_mem.2 (.inl ⟨d,h1 ▸ hd,rfl⟩)) rfl
    | put r h1 h2 h3 h4 => exact out _ (rowsL_mem.2 (.inl ⟨d,h1 ▸ hd,rfl⟩)) rfl
  · exact hmeta hm
  · have stay:r∈x.runs→∃ q∈rowsS x,q.1=p.1:=fun h => out p (rowsL_mem.2 (.inr (.inr ⟨r,h,hpr⟩))) rfl
    cases hf with
    | same h1 h2 => exact stay (h1 ▸ hr)
    | graph d' h => exact stay (by rw [h]; exact hr)
    | set j hj r' k h1 h2 h3 =>
      by_cases e:r=w.runs[j]
      · subst e
        have hr':r'∈x.runs:=by rw [h2]; exact List.mem_set hj r'
        rcases hpr with rfl | ⟨i,hi,rfl⟩
        · exact out (runPr r') (rowsL_mem.2 (.inr (.inr ⟨r',hr',.inl rfl⟩))) (by simp [runPr,h3.key])
        · exact out (sttPr r' i (r'.states.getD i zS)) (rowsL_mem.2 (.inr (.inr ⟨r',hr',.inr ⟨i,by rw [h3.len]; exact hi,rfl⟩⟩))) (by simp [sttPr,h3.key])
      · refine stay ?_
        obtain ⟨a,ha,ea⟩:=List.mem_iff_getElem.1 hr
        rw [h2]
        refine List.mem_iff_getElem.2 ⟨a,by simpa using ha, ?_⟩
        rw [List.getElem_set_ne (fun h => e (by subst h; exact ea.symm))]; exact ea
    | put r' h1 h2 h3 h4 =>
      refine stay ?_
      rw [h2]
      show r∈w.runs.take _++r'::w.runs.drop _
      rw [if_neg h3,Nat.add_zero]
      rw [← List.take_append_drop (lbR r'.key w.runs) w.runs,List.mem_append] at hr
      rcases hr with hr | hr<;>simp [hr]
theorem fit_all {w:Wd} {c:Cmd} (hw:WR w):(∀ ch∈diffS (rowsS w) (rowsS (kindW w c).1),rightC ch=true)∧(diffS (rowsS w) (rowsS (kindW w c).1)).length≤255∧(packB (diffS (rowsS w) (rowsS (kindW w c).1))).length≤480:=by
  have hx:=keeps w c hw
  have hs:=fit_sz (c:=c) hw
  have hk:=fit_keys (c:=c) hw
  have hd:=diff_sub _ _ (rows_ok hw).1 (rows_ok hx).1 hk
  generalize (kindW w c).1=x at *
  have hperm:=szL_perm ((rows_ok hx).2.filter fun q => decide (q∉rowsS w))
  have hsm:∀ p∈(rowsS x).filter fun q => decide (q∉rowsS w),1≤p.1.length∧p.1.length≤18∧p.2.length≤200:=fun p hp => pairs_small hx (List.mem_filter.1 hp).1
  rw [hd]
  generalize (rowsS x).filter (fun q => decide (q∉rowsS w))=F at *
  have hl:=sz_len F
  have hb:=chsB_sz F fun p hp => by have:=hsm p hp; omega
  have hl2:(F.map setC').length≤255:=by rw [List.length_map]; omega
  refine ⟨fun ch hch => ?_,hl2, ?_⟩
  · obtain ⟨p,hp,rfl⟩:=List.mem_map.1 hch
    have:=hsm p hp
    exact decide_eq_true ⟨this.1,Nat.le_trans this.2.1 (by decide),this.2.2,fun h => by cases h⟩
  · rw [packB,List.length_append,put1_len (by omega),hb]; omega
theorem eqF_ch (p q:Chg):eqF [1,1,2] [.str p.key,.str p.val,.bool p.gone] [.str q.key,.str q.val,.bool q.gone]=some (decide (p=q)):=by
  obtain ⟨a,b,c⟩:=p; obtain ⟨d,e,f⟩:=q
  simp only [eqF,Chg.mk.injEq]
  congr 1
  rw [Bool.eq_iff_iff]; simp
theorem getC_ch (p:Chg):getC (some 3) 0 (chV p)=some (chV p):=rfl
theorem like13 (st st':St) (a b:List Chg) (ha:a.length≤100000) (hb:b.length≤100000):PCall Tryz.prog 31 [.fsl st 3 (mv chV a),.fsl st' 3 (mv chV b)] (.bool (decide (a=b))):=by
  refine en31 (by simp) (by simp [closedL,V.closed,mv_closed chV_closed]) ?_
  simp (maxSteps:=1000000) (disch:=omega) only [rg,gD,simprocAttr,c31,mv_len]
  by_cases c:a.length=b.length
  case neg =>
    have hne:a≠b:=fun e => c (by rw [e])
    simp (maxSteps:=1000000) (disch:=omega) only [rg,gD,simprocAttr,show ¬ (a.length:Int)=b.length by omega]
    (refine fin_x rfl ?_ ?_<;>simp [pack,lo,loL,V.closed,closedL,mv_closed,hne])
  simp (maxSteps:=1000000) (disch:=omega) only [rg,gD,simprocAttr,show (a.length:Int)=b.length by omega]
  refine x_it a.length (fun k σ H => a.take k=b.take k∧σ=[(0,.fsl st 3 (mv chV a)),(1,.fsl st' 3 (mv chV b)),(12,.int .i64 (a.length:Int)),(13,.int .i64 (k:Int))]) ⟨rfl,by simp [c]⟩ ?_
  rintro T k σ ⟨n,m⟩ hkk ⟨ht,rfl⟩ hN hX hR
  by_cases hk:k < a.length
  · have hk2:k < b.length:=by omega
    have e:(a.take (k+1)=b.take (k+1))↔a[k]=b[k]:=by
      rw [List.take_succ_eq_append_getElem hk,List.take_succ_eq_append_getElem hk2,ht]
      exact ⟨fun h => by simpa using List.append_cancel_left h,fun h => by rw [h]⟩
    by_cases h:a[k]=b[k]
    · simp (maxSteps:=1000000) (disch:=omega) only [rg,gD,simprocAttr,show (k:Int) < a.length by omega,mv_get hk,mv_get hk2,Int.toNat_natCast,getC_ch,chV,eqF_ch,decide_eq_true h]
      exact hN _ _ hk ⟨e.2 h,rfl⟩
    · have hne:a≠b:=fun e => h (by simp [e])
      simp (maxSteps:=1000000) (disch:=omega) only [rg,gD,simprocAttr,show (k:Int) < a.length by omega,mv_get hk,mv_get hk2,Int.toNat_natCast,getC_ch,chV,eqF_ch,decide_eq_false h]
      refine hR _ _ ?_
      simp (maxSteps:=1000000) (disch:=omega) only [rg,gD,simprocAttr]
      (refine fin_x rfl ?_ ?_<;>simp [pack,lo,loL,V.closed,closedL,mv_closed,hne])
  · obtain rfl:k=a.length:=by omega
    have hab:a=b:=by rw [List.take_length,c,List.take_length] at ht; exact ht
    simp (maxSteps:=1000000) (disch:=omega) only [rg,gD,simprocAttr,Int.lt_irrefl]
    refine hX _ _ _ ?_
    simp (maxSteps:=1000000) (disch:=omega) only [rg,gD,simprocAttr]
    refine x_frz0 ?_
    simp (maxSteps:=1000000) (disch:=omega) only [rg,gD,simprocAttr]
    (refine fin_x rfl ?_ ?_<;>simp [pack,lo,loL,V.closed,closedL,mv_closed,hab])
section
open Classical in
set_option maxHeartbeats 1000000 in
theorem law_fit (a:Wd) (c:Cmd) (ha:WdA a) (hd:okDagL c.dag):PCall Tryz.prog 12 [wdV a,cmdV c] (.bool true):=by
  refine en12 (by simp) (by simp [closedL,wdV_closed,cmdV_closed]) ?_
  have fa:=law_few21 a ha
  have ma:=few_M ha
  generalize fewS a=w at fa ma
  have h0:=world_right w ma.ok
  have h1:=world_do w c ma.ok hd
  have hM:=do_M w c ma hd
  simp (maxSteps:=1000000) (disch:=omega) only [rg,gD,simprocAttr,c12,getC_wd,getC_cmd,setC_wd,setC_z4,setC_z6]
  refine ⟨⟨rfl,rfl⟩,⟨rfl,rfl⟩,_,fa, ?_⟩
  simp (maxSteps:=1000000) (disch:=omega) only [rg,gD,simprocAttr,getC_wd,getC_cmd,setC_wd,setC_z4,setC_z6]
  refine ⟨_,h0, ?_⟩
  by_cases hw:WR w
  case neg =>
    rw [decide_eq_false hw]
    simp (maxSteps:=1000000) (disch:=omega) only [rg,gD,simprocAttr]
    refine ⟨_,law_alive21, ?_⟩
    simp (maxSteps:=1000000) (disch:=omega) only [rg,gD,simprocAttr]
    (refine fin_x rfl ?_ ?_<;>simp [pack,lo,loL,V.closed,closedL,mv_closed])
  rw [decide_eq_true hw]
  have g7:getC none 7 (cmdV c)=some (tasksV c.dag.tasks):=rfl
  by_cases ht:c.dag.tasks.length≤20
  case neg =>
    simp (maxSteps:=1000000) (disch:=omega) only [rg,gD,simprocAttr,getC_cmd,g7,tasksV,mv_len,show (20:Int) < c.dag.tasks.length by omega]
    refine ⟨_,law_alive21, ?_⟩
    simp (maxSteps:=1000000) (disch:=omega) only [rg,gD,simprocAttr]
    (refine fin_x rfl ?_ ?_<;>simp [pack,lo,loL,V.closed,closedL,mv_closed])
  have e0:doS w c=kindW w c:=by unfold doS; rw [if_pos hw]
  have hx:=keeps w c hw
  obtain ⟨f1,f2,f3⟩:=fit_all (c:=c) hw
  rw [e0] at h1 hM
  have h2:=rows_diff w (kindW w c).1 ma hM
  rw [if_pos ⟨hw,hx⟩,if_pos ⟨hw,hx⟩] at h2
  generalize kindW w c=z at h1 h2 hM hx f1 f2 f3
  obtain ⟨x,an⟩:=z
  unfold waV at h1
  simp only at h1 h2 f1 f2 f3
  generalize diffS (rowsS w) (rowsS x)=D at h2 f1 f2 f3
  have h3:=ring_pack .loose D f1 f2 f3
  have h4:=ring_unpack D f1 f2 f3
  have h5:=like13 .loose .loose D D (by omega) (by omega)
  rw [decide_eq_true rfl] at h5
  simp (maxSteps:=1000000) (disch:=omega) only [rg,gD,simprocAttr,getC_cmd,g7,tasksV,mv_len,show ¬ (20:Int) < c.dag.tasks.length by omega,getC_wd]
  refine ⟨_,h1, ?_⟩
  simp (maxSteps:=1000000) (disch:=omega) only [rg,gD,simprocAttr,getC_wd,getC_cmd,setC_wd,setC_z4,setC_z6]
  refine ⟨_,h2, ?_⟩
  simp (maxSteps:=1000000) (disch:=omega) only [rg,gD,simprocAttr,chsV]
  refine ⟨_,h3, ?_⟩
  simp (maxSteps:=1000000) (disch:=omega) only [rg,gD,simprocAttr]
  refine ⟨_,h4, ?_⟩
  simp (maxSteps:=1000000) (disch:=omega) only [rg,gD,simprocAttr,chsV]
  refine ⟨_,law_alive21, ?_⟩
  simp (maxSteps:=1000000) (disch:=omega) only [rg,gD,simprocAttr]
  refine ⟨_,h5, ?_⟩
  simp (maxSteps:=1000000) (disch:=omega) only [rg,gD,simprocAttr]
  (refine fin_x rfl ?_ ?_<;>simp [pack,lo,loL,V.closed,closedL,mv_closed])
theorem row_fit (a:Wd) (c:Cmd) (ha:WdA a) (hd:okDagL c.dag):PCall Tryz.prog 12 [.agg [.int .i64 a.now,.int .i64 a.token,.fsl .loose 2 (mv dagV a.dags),.fsl .loose 5 (mv rnV a.runs)],.agg [.int .i64 c.kind,.str c.key,.str c.name,.int .i64 c.token,.int .i64 c.time,.str c.text,.str c.dag.name,tasksV c.dag.tasks]] (.bool true) :=
  law_fit a c ha hd
end
end Go.Proofs.YtkdeckmglbnfbaaGreat.Ev
