/-
  Part 6 of what the proof of the statement WorldDoes leans on: the evaluator, the functions in compact form, and what they answer.
-/
import Derived.Test.YtkdeckmglbnfbaaGreatM5
import Derived.Test.YtkdeckmglbnfbaaGreatProg
import Derived.KernelRfl
set_option linter.unusedSimpArgs false
set_option linter.unusedVariables false
set_option maxRecDepth 10000
namespace Go.Proofs.YtkdeckmglbnfbaaGreat.Ev
open Go
section
theorem ACall.more {P:Program} {f:Nat} {vs:List V} {H:Hp} {fp:List Nat} {r:V} {ds:List (Nat×Option Ob)} {k k':Nat} (h:ACall P f vs H fp r ds k) (hk:k≤k'):ACall P f vs H fp r ds k':=by
  refine ⟨h.1,fun p hp => (h.2.1 p hp).imp (fun h => h) (fun h => ⟨h.1,by omega⟩),fun m g w xs h1 h2 h3 h4 => (h.2.2 m g w xs h1 (fun i a b => h2 i a (by omega)) h3 h4).mono ?_⟩
  rintro e w' ⟨x,g',k1,k2,k3,k4,k5⟩
  exact ⟨x,g',k1,k2,k3,fun i hi => k4 i (fun hh => hi ⟨hh.1,by omega⟩),k5⟩
theorem idx_runs {st:St} {rows:List Rn} {fs cs:List V} {g:Nat} {q:Rn→Bool} {H:Hp} {fp:List Nat} {kk:Nat} (hn:rows.length≤1000000) (hl:lowL H.n fs=true) (hl':lowL H.n cs=true) (hfp:FpOk H fp)
    (hg:∀ x∈rows,∀ H':Hp,H.n≤H'.n→(∀ id∈fp,H'.m id=H.m id)→ACall Tryz.prog g (fs++[rnV x]++cs) H' fp (.bool (q x)) [] kk) :
    ACall Tryz.prog 207 [.fsl st 5 (mv rnV rows),.fn g fs cs] H fp (.int .i64 (ixO (fndS q 0 rows))) [] (rows.length*kk):=by
  rw [← ixA_fnd]
  exact idx_of (k:=some 5) ena207 (by decide) rnV_inj rnV_closed (fun _ => rfl) (by omega) hl hl' hfp hg
theorem end_E {id p q sz t:Nat} {H':Hp} {pre post rows:List V} {a:V}
    (hq:H'.m q=some (.arr sz rows)) (hrows:closedL rows=true) (hid:H'.m id=some (.arr 12 [.agg (pre++.sl q 0 rows.length::post)])) (hpre:closedL pre=true) (hpost:closedL post=true)
    (hp:H'.m p=some (.arr 6 [a])) (ha:a.closed=true) (h1:id≠q) (h2:p≠q) (h3:p≠id) {Q:QA}
    (hQ:∀ H2:Hp,H2.n=H'.n→H2.m id=some (.arr 12 [lo (.agg (pre++.fsl .loose sz rows::post))])→H2.m p=some (.arr 6 [a]) →
      (∀ b i o j,b≠q→b≠id→H'.m b=some (.arr 1 [.ptr i o j])→H2.m b=some (.arr 1 [.ptr i o j]))→Q .ret [(t,.ptr p 0 0)] H2) :
    evX Tryz.prog (.frz .ret) [(t,.ptr p 0 0)] H' Q:=by
  refine x_frzL [q] [id] ?_
  have hs:∀ j,snap (j+1) (only [q] H'.m) (.sl q 0 rows.length)=some (.fsl .loose sz rows):=fun j => by
    have:mapO (snap j (only [q] H'.m)) rows=some rows:=mapO_closed hrows
    have e:only [q] H'.m q=some (.arr sz rows):=by simp [only,hq]
    rw [snap,if_neg (by simp [V.closed])]
    simp [e,this]
  have e1:=frl_lo (fz:=[q]) (ids:=[id]) hid (by simp [h1]) (by simp)
  simp only [List.map_cons,List.map_nil,frzV_mid hs hpre hpost,loL] at e1
  have e2:=frl_cl (fz:=[q]) (ids:=[id]) hp (by simp [closedL,ha]) (by simp [h2]) (by simp [h3])
  simp only [vr,frz_p]
  simp (maxSteps:=1000000) (disch:=omega) only [rg,gD,simprocAttr]
  refine hQ _ rfl e1 e2 fun b i o j b1 b2 b3 => ?_
  have:=frl_get (fz:=[q]) (ids:=[id]) b3 (by simp [b1]) (by simp [b2])
  simpa only [List.map_cons,List.map_nil,frz_p] using this
open Classical in
set_option maxHeartbeats 1000000 in
theorem do_told (w:Wd) (c:Cmd) (ok:WdOk w) (hw:WR w) (g b:Nat) (f:Task→Stt→Stt×Int) (H:Hp) (id:Nat) (hbx:Bx H id b w c)
    (hdo:∀ (H':Hp) r,r∈w.runs→Bx H' id b w c→ACall Tryz.prog g [rnV r,.ptr b 0 0] H' [b,id] (rnE (toldS w.now f c.token r)) [] 2) :
    ACall Tryz.prog 155 [.ptr id 0 0,.fn g [] [.ptr b 0 0]] H [b,id] (ansV (toldW w f c.token).2) [(id,some (.arr 12 [drV (toldW w f c.token).1 c]))] (w.runs.length*1001+7):=by
  have hnr:=ok.runs
  refine ena155 (by simp) (by simp [lowL,V.low,hbx.li,hbx.lq]) hbx.fp (by simp) ?_
  have hne:=hbx.ne
  have hoo:only [b,id] H.m id=some (.arr 12 [drV w c]):=by simp [only,hbx.ho]
  have hqq:only [b,id] H.m b=some (.arr 1 [.ptr id 0 0]):=by simp [only,hbx.hq]
  have li:=hbx.li
  have lq:=hbx.lq
  have l1:¬ id=H.n:=by omega
  have l2:¬ id=H.n+1:=by omega
  have l3:¬ b=H.n:=by omega
  have l4:¬ b=H.n+1:=by omega
  unfold drV drU at hoo
  have hix:∀ H':Hp,H'.n=H.n+2→H'.m H.n=some (.arr 1 [.ptr id 0 0])→H'.m id=some (.arr 12 [drV w c])→ACall Tryz.prog 207 [.fsl .loose 5 (mv rnV w.runs),.fn 208 [] [.ptr H.n 0 0]] H' [H.n,id] (.int .i64 (ixO (fndS (hasP c.token) 0 w.runs))) [] (w.runs.length*1001):=fun H' e1 e2 e3 => by
    have hb2:Bx H' id H.n w c:=⟨by omega,by omega,e3,e2⟩
    refine idx_runs (by omega) (by simp [lowL]) (by simp [lowL,V.low,hb2.lq]) hb2.fp fun x hx H2 g1 g2 => ?_
    have hss:=(hw.runs x hx).2.small.2.1
    obtain ⟨k,hk,hc⟩:=told_clo H2 id H.n w c x ⟨by omega,by omega,(g2 id (by simp)).trans e3,(g2 H.n (by simp)).trans e2⟩ (by omega)
    exact hc.more hk
  simp (maxSteps:=1000000) (disch:=omega) only [rg,gD,simprocAttr,c155,hoo,l1,l2,l3,l4]
  refine ⟨_,_,_,_,hix _ rfl (by simp (disch:=omega) only [upd_eq,upd_ne,wo_0,wo_1,wo_2]) (by simp (disch:=omega) only [upd_eq,upd_ne,wo_0,wo_1,wo_2,hoo,drV,drU]), ?_⟩
  have fin:∀ (σ:Sg) (H':Hp) (r:V),resE σ H'.m r155=some [r]→lo r=ansV (toldW w f c.token).2→H'.n≤H.n+(w.runs.length*1001+7)→H'.m id=some (.arr 12 [drV (toldW w f c.token).1 c])→H'.m b=some (.arr 1 [.ptr id 0 0]) →
      FinA r155 (only [b,id] H.m) H.n (ansV (toldW w f c.token).2) [(id,some (.arr 12 [drV (toldW w f c.token).1 c]))] (w.runs.length*1001+7) .ret σ H':=fun σ H' r h1 h2 h3 h4 h5 => by
    refine fin_A (l:=[r]) h1 (.inr (.inr h2)) h3 fun j => ?_
    simp only [appd,upd]
    by_cases j1:j=id
    · rw [if_pos j1,j1,h4]; exact .inr rfl
    · rw [if_neg j1]
      by_cases j2:j=b
      · rw [j2,h5,hqq]; exact .inr rfl
      · left; simp [only,j1,j2]
  have hsp:toldW w f c.token=match fndS (hasP c.token) 0 w.runs with
      | none => (w,whyA 191)
      | some i => if (toldS w.now f c.token (w.runs.getD i zR)).2≠0 then (w,whyA (toldS w.now f c.token (w.runs.getD i zR)).2)
        else ({ w with runs:=w.runs.set i (toldS w.now f c.token (w.runs.getD i zR)).1 },⟨0,(w.runs.getD i zR).key,0,0,0,[]⟩):=by
    unfold toldW; cases fndS (hasP c.token) 0 w.runs<;>rfl
  cases hf:fndS (hasP c.token) 0 w.runs with
  | none =>
    have hres:toldW w f c.token=(w,whyA 191):=by rw [hsp,hf]
    rw [hres] at fin ⊢
    simp (maxSteps:=1000000) (disch:=omega) only [rg,gD,simprocAttr,ixO,show (-1:Int) < 0 by omega]
    refine ⟨_,world_why 191, ?_⟩
    simp (maxSteps:=1000000) (disch:=omega) only [rg,gD,simprocAttr,ansV,hoo]
    refine x_frz0 ?_
    simp (maxSteps:=1000000) (disch:=omega) only [rg,gD,simprocAttr]
    refine fin _ _ _ (by simp (disch:=omega) only [r155,resE,find,loadO,upd_eq,upd_ne,reduceIte,Nat.reduceEqDiff]; rfl) (by simp [lo,loL,ansV,whyA,sttsV,mv_nil,mv_lo sttV_lo]) (by simp only []; omega) ?_ ?_
    · simp (disch:=omega) only [upd_ne,hoo]; rfl
    · simp (disch:=omega) only [upd_ne,hqq]
  | some i =>
    obtain ⟨hi,_,_⟩:=fndS_get hf
    rw [hf] at hsp
    simp only [getD_get hi] at hsp
    have hkey:=told_key (now:=w.now) (token:=c.token) (f:=f) (r:=w.runs[i])
    have hdo':=fun H' => hdo H' w.runs[i] (List.getElem_mem hi)
    generalize toldS w.now f c.token w.runs[i]=z at hdo' hkey hsp
    unfold rnE at hdo'
    obtain ⟨N,hN⟩:∃ N,N=H.n+2+w.runs.length*1001:=⟨_,rfl⟩
    have m1:¬ id=N+2:=by omega
    have m2:¬ b=N+2:=by omega
    have m3:¬ H.n=N+2:=by omega
    have m4:¬ H.n+1=N+2:=by omega
    have m5:¬ id=N+3:=by omega
    have m6:¬ id=N+4:=by omega
    have m7:¬ H.n=id:=by omega
    have m8:¬ H.n+1=id:=by omega
    simp (maxSteps:=1000000) (disch:=omega) only [rg,gD,simprocAttr,ixO,show ¬ (i:Int) < 0 by omega,hoo,l1,l2,mv_get hi,Int.toNat_natCast,getC_runs,show (i:Int) < (w.runs.length:Int) by omega]
    refine ⟨_,_,_,_,hdo' _ ⟨by simp only []; omega,by simp only []; omega,(by simp (disch:=omega) only [upd_eq,upd_ne,wo_0,wo_1,wo_2,hoo,drV,drU]),(by simp (disch:=omega) only [upd_eq,upd_ne,wo_0,wo_1,wo_2,hqq])⟩, ?_⟩
    rw [← hN]
    by_cases z0:z.2=0
    case neg =>
      rw [if_pos z0] at hsp
      rw [hsp] at fin ⊢
      simp (maxSteps:=1000000) (disch:=omega) only [rg,gD,simprocAttr,setC_rn0,eq_false z0,m1,m2,m3,m4,hoo]
      refine ⟨_,world_why z.2, ?_⟩
      simp (maxSteps:=1000000) (disch:=omega) only [rg,gD,simprocAttr,ansV,hoo,m1,m2,m3,m4]
      refine x_frz0 ?_
      simp (maxSteps:=1000000) (disch:=omega) only [rg,gD,simprocAttr]
      refine fin _ _ _ (by simp (disch:=omega) only [r155,resE,find,loadO,upd_eq,upd_ne,reduceIte,Nat.reduceEqDiff]; rfl) (by simp [lo,loL,ansV,whyA,sttsV,mv_nil,mv_lo sttV_lo]) (by simp only []; omega) ?_ ?_
      · simp (disch:=omega) only [upd_ne,hoo]; rfl
      · simp (disch:=omega) only [upd_ne,hqq]
    rw [if_neg (by omega)] at hsp
    rw [hsp] at fin ⊢
    simp (maxSteps:=1000000) (disch:=omega) only [rg,gD,simprocAttr,setC_rn0,eq_true z0,m1,m2,m3,m4,hoo,getC_runs]
    refine ⟨_,_,_,_,do_put w c i z.1 _ id (by simp only []; omega) (by simp (disch:=omega) only [upd_eq,upd_ne,wo_0,wo_1,wo_2,hoo,drV,drU]) hi hnr, ?_⟩
    simp (maxSteps:=1000000) (disch:=omega) only [rg,gD,simprocAttr,hoo,m1,m2,m3,m4,m5,m6,m7,m8,getC_rnk]
    refine end_E (sz:=5) (q:=N+4) (p:=H.n+1) (id:=id) (a:=V.agg [V.int .i64 0,V.str z.1.key,V.int .i64 0,V.int .i64 0,V.int .i64 0,V.fsl .nil 5 []]) (pre:=[.int .i64 w.now,.int .i64 w.token,.fsl .loose 2 (mv dagV w.dags)]) (post:=[.int .i64 c.kind,.str c.key,.str c.name,.int .i64 c.token,.int .i64 c.time,.str c.text,.str c.dag.name,tasksV c.dag.tasks]) (rows:=mv rnV (w.runs.set i z.1))
      (by simp (disch:=omega) only [upd_eq,upd_ne,wo_0,wo_1,wo_2]) (mv_closed rnV_closed) ?_ (closed_pre w) (closed_post c) (by simp (disch:=omega) only [upd_eq,upd_ne,wo_0,wo_1,wo_2]) rfl (by omega) (by omega) (by omega) fun H2 g1 g2 hp2 g4 => ?_
    · rw [mv_len,List.length_set]; simp (disch:=omega) only [upd_eq,upd_ne,drU]; rfl
    refine fin _ _ _ (by simp (disch:=omega) only [r155,resE,find,loadO,reduceIte,Nat.reduceEqDiff,hp2]; rfl) (by simp [lo,loL,ansV,sttsV,mv_nil,hkey z0]) (by rw [g1]; simp only []; omega) ?_ (g4 b _ _ _ (by omega) (by omega) (by simp (disch:=omega) only [upd_eq,upd_ne,wo_0,wo_1,wo_2,hqq]))
    rw [g2]; simp [lo,loL,drV,drU,mv_lo dagV_lo,mv_lo rnV_lo,tasksV_lo]
end
section
theorem beat_clo1 (w:Wd) (c:Cmd) (ok:WdOk w) (hw:WR w) (H:Hp) (id b:Nat) (r:Rn) (hr:r∈w.runs) (h:Bx H id b w c) :
    ACall Tryz.prog 156 [rnV r,.ptr b 0 0] H [b,id] (rnE (toldS w.now (fun t s => tbeatS t s w.now) c.token r)) [] 2:=by
  refine ena156 (by simp) (by simp [lowL,V.low,h.lq,V.low_closed _ (rnV_closed r)]) h.fp (by simp) ?_
  have q1:only [b,id] H.m b=some (.arr 1 [.ptr id 0 0]):=by simp [only,h.hq]
  have q2:only [b,id] H.m id=some (.arr 12 [drV w c]):=by simp [only,h.ho]
  unfold drV drU at q2
  have l1:¬ b=H.n:=by have:=h.lq; omega
  have l2:¬ id=H.n:=by have:=h.li; omega
  have l3:¬ b=H.n+1:=by have:=h.lq; omega
  have l4:¬ id=H.n+1:=by have:=h.li; omega
  have hb:=run_beat r w.now c.token (ok.run r hr) (hw.runs r hr).2
  generalize toldS w.now (fun t s => tbeatS t s w.now) c.token r=z at hb
  unfold rnE at hb
  simp (maxSteps:=1000000) (disch:=omega) only [rg,gD,simprocAttr,c156,q1,q2,l1,l2,l3,l4,getC_runs,setC_rn0]
  refine ⟨⟨rfl,rfl⟩, ?_⟩
  refine ⟨_,hb, ?_⟩
  simp (maxSteps:=1000000) (disch:=omega) only [rg,gD,simprocAttr,q1,q2,l1,l2,l3,l4,getC_runs,setC_rn0]
  refine fin_A (l:=[rnV z.1,.int .i64 z.2]) (by simp (disch:=omega) only [r156,resE,find,loadO,upd_eq,upd_ne,reduceIte,Nat.reduceEqDiff]; rfl) (.inl rfl) (by simp) (fun j => ?_)
  by_cases hj:j=H.n
  · subst hj; left; simp [appd,only]; omega
  · by_cases hj2:j=H.n+1
    · subst hj2; left; simp [appd,only]; omega
    · right; simp [appd,upd,hj,hj2]
set_option maxHeartbeats 1000000 in
theorem do_beat (w:Wd) (c:Cmd) (ok:WdOk w) (hw:WR w):DoC 94 w c (toldW w (fun t s => tbeatS t s w.now) c.token):=by
  refine mkDo (k:=w.runs.length*1001+9) ena94 (by simp) fun id h m hid ho fin => ?_
  have hoo:=(show only [id] m id=m id by simp [only]).trans ho
  have l1:¬ id=h:=by omega
  have l2:¬ id=h+1:=by omega
  have l3:¬ h=id:=by omega
  have l4:¬ h+1=id:=by omega
  simp (maxSteps:=1000000) (disch:=omega) only [rg,gD,simprocAttr,c94,hoo,l1,l2]
  refine ⟨_,_,_,_,do_told w c ok hw 156 h (fun t s => tbeatS t s w.now) _ id ⟨by simp only []; omega,by simp only []; omega,by simp (disch:=omega) only [upd_ne,hoo]; rfl,(by simp (disch:=omega) only [upd_eq,upd_ne,wo_0,wo_1,wo_2])⟩ (fun H' r hr hb => beat_clo1 w c ok hw H' id h r hr hb), ?_⟩
  generalize toldW w (fun t s => tbeatS t s w.now) c.token=z at fin ⊢
  simp (maxSteps:=1000000) (disch:=omega) only [rg,gD,simprocAttr,ansV,hoo,l1,l2,l3,l4]
  refine fin _ _ _ (by simp (disch:=omega) only [r94,resE,find,loadO,upd_eq,upd_ne,reduceIte,Nat.reduceEqDiff]; rfl) (by simp [lo,loL,ansV,sttsV,mv_nil,mv_lo sttV_lo]) (by simp only []; omega) ?_
  simp (disch:=omega) only [upd_ne,upd_eq]
theorem done_clo1 (w:Wd) (c:Cmd) (ok:WdOk w) (hw:WR w) (H:Hp) (id b:Nat) (r:Rn) (hr:r∈w.runs) (h:Bx H id b w c) :
    ACall Tryz.prog 158 [rnV r,.ptr b 0 0] H [b,id] (rnE (toldS w.now (fun t s => tdoneS s c.text) c.token r)) [] 2:=by
  refine ena158 (by simp) (by simp [lowL,V.low,h.lq,V.low_closed _ (rnV_closed r)]) h.fp (by simp) ?_
  have q1:only [b,id] H.m b=some (.arr 1 [.ptr id 0 0]):=by simp [only,h.hq]
  have q2:only [b,id] H.m id=some (.arr 12 [drV w c]):=by simp [only,h.ho]
  unfold drV drU at q2
  have l1:¬ b=H.n:=by have:=h.lq; omega
  have l2:¬ id=H.n:=by have:=h.li; omega
  have l3:¬ b=H.n+1:=by have:=h.lq; omega
  have l4:¬ id=H.n+1:=by have:=h.li; omega
  have hb:=run_done r w.now c.token c.text (ok.run r hr) (hw.runs r hr).2
  generalize toldS w.now (fun t s => tdoneS s c.text) c.token r=z at hb
  unfold rnE at hb
  simp (maxSteps:=1000000) (disch:=omega) only [rg,gD,simprocAttr,c158,q1,q2,l1,l2,l3,l4,getC_runs,setC_rn0]
  refine ⟨⟨rfl,rfl⟩, ?_⟩
  refine ⟨_,hb, ?_⟩
  simp (maxSteps:=1000000) (disch:=omega) only [rg,gD,simprocAttr,q1,q2,l1,l2,l3,l4,getC_runs,setC_rn0]
  refine fin_A (l:=[rnV z.1,.int .i64 z.2]) (by simp (disch:=omega) only [r158,resE,find,loadO,upd_eq,upd_ne,reduceIte,Nat.reduceEqDiff]; rfl) (.inl rfl) (by simp) (fun j => ?_)
  by_cases hj:j=H.n
  · subst hj; left; simp [appd,only]; omega
  · by_cases hj2:j=H.n+1
    · subst hj2; left; simp [appd,only]; omega
    · right; simp [appd,upd,hj,hj2]
set_option maxHeartbeats 1000000 in
theorem do_done (w:Wd) (c:Cmd) (ok:WdOk w) (hw:WR w):DoC 95 w c (toldW w (fun t s => tdoneS s c.text) c.token):=by
  refine mkDo (k:=w.runs.length*1001+9) ena95 (by simp) fun id h m hid ho fin => ?_
  have hoo:=(show only [id] m id=m id by simp [only]).trans ho
  have l1:¬ id=h:=by omega
  have l2:¬ id=h+1:=by omega
  have l3:¬ h=id:=by omega
  have l4:¬ h+1=id:=by omega
  simp (maxSteps:=1000000) (disch:=omega) only [rg,gD,simprocAttr,c95,hoo,l1,l2]
  refine ⟨_,_,_,_,do_told w c ok hw 158 h (fun t s => tdoneS s c.text) _ id ⟨by simp only []; omega,by simp only []; omega,by simp (disch:=omega) only [upd_ne,hoo]; rfl,(by simp (disch:=omega) only [upd_eq,upd_ne,wo_0,wo_1,wo_2])⟩ (fun H' r hr hb => done_clo1 w c ok hw H' id h r hr hb), ?_⟩
  generalize toldW w (fun t s => tdoneS s c.text) c.token=z at fin ⊢
  simp (maxSteps:=1000000) (disch:=omega) only [rg,gD,simprocAttr,ansV,hoo,l1,l2,l3,l4]
  refine fin _ _ _ (by simp (disch:=omega) only [r95,resE,find,loadO,upd_eq,upd_ne,reduceIte,Nat.reduceEqDiff]; rfl) (by simp [lo,loL,ansV,sttsV,mv_nil,mv_lo sttV_lo]) (by simp only []; omega) ?_
  simp (disch:=omega) only [upd_ne,upd_eq]
theorem fail_clo1 (w:Wd) (c:Cmd) (ok:WdOk w) (hw:WR w) (H:Hp) (id b:Nat) (r:Rn) (hr:r∈w.runs) (h:Bx H id b w c) :
    ACall Tryz.prog 160 [rnV r,.ptr b 0 0] H [b,id] (rnE (toldS w.now (fun t s => tfailS t s w.now) c.token r)) [] 2:=by
  refine ena160 (by simp) (by simp [lowL,V.low,h.lq,V.low_closed _ (rnV_closed r)]) h.fp (by simp) ?_
  have q1:only [b,id] H.m b=some (.arr 1 [.ptr id 0 0]):=by simp [only,h.hq]
  have q2:only [b,id] H.m id=some (.arr 12 [drV w c]):=by simp [only,h.ho]
  unfold drV drU at q2
  have l1:¬ b=H.n:=by have:=h.lq; omega
  have l2:¬ id=H.n:=by have:=h.li; omega
  have l3:¬ b=H.n+1:=by have:=h.lq; omega
  have l4:¬ id=H.n+1:=by have:=h.li; omega
  have hb:=run_fail r w.now c.token (ok.run r hr) (hw.runs r hr).2
  generalize toldS w.now (fun t s => tfailS t s w.now) c.token r=z at hb
  unfold rnE at hb
  simp (maxSteps:=1000000) (disch:=omega) only [rg,gD,simprocAttr,c160,q1,q2,l1,l2,l3,l4,getC_runs,setC_rn0]
  refine ⟨⟨rfl,rfl⟩, ?_⟩
  refine ⟨_,hb, ?_⟩
  simp (maxSteps:=1000000) (disch:=omega) only [rg,gD,simprocAttr,q1,q2,l1,l2,l3,l4,getC_runs,setC_rn0]
  refine fin_A (l:=[rnV z.1,.int .i64 z.2]) (by simp (disch:=omega) only [r160,resE,find,loadO,upd_eq,upd_ne,reduceIte,Nat.reduceEqDiff]; rfl) (.inl rfl) (by simp) (fun j => ?_)
  by_cases hj:j=H.n
  · subst hj; left; simp [appd,only]; omega
  · by_cases hj2:j=H.n+1
    · subst hj2; left; simp [appd,only]; omega
    · right; simp [appd,upd,hj,hj2]
set_option maxHeartbeats 1000000 in
theorem do_fail (w:Wd) (c:Cmd) (ok:WdOk w) (hw:WR w):DoC 96 w c (toldW w (fun t s => tfailS t s w.now) c.token):=by
  refine mkDo (k:=w.runs.length*1001+9) ena96 (by simp) fun id h m hid ho fin => ?_
  have hoo:=(show only [id] m id=m id by simp [only]).trans ho
  have l1:¬ id=h:=by omega
  have l2:¬ id=h+1:=by omega
  have l3:¬ h=id:=by omega
  have l4:¬ h+1=id:=by omega
  simp (maxSteps:=1000000) (disch:=omega) only [rg,gD,simprocAttr,c96,hoo,l1,l2]
  refine ⟨_,_,_,_,do_told w c ok hw 160 h (fun t s => tfailS t s w.now) _ id ⟨by simp only []; omega,by simp only []; omega,by simp (disch:=omega) only [upd_ne,hoo]; rfl,(by simp (disch:=omega) only [upd_eq,upd_ne,wo_0,wo_1,wo_2])⟩ (fun H' r hr hb => fail_clo1 w c ok hw H' id h r hr hb), ?_⟩
  generalize toldW w (fun t s => tfailS t s w.now) c.token=z at fin ⊢
  simp (maxSteps:=1000000) (disch:=omega) only [rg,gD,simprocAttr,ansV,hoo,l1,l2,l3,l4]
  refine fin _ _ _ (by simp (disch:=omega) only [r96,resE,find,loadO,upd_eq,upd_ne,reduceIte,Nat.reduceEqDiff]; rfl) (by simp [lo,loL,ansV,sttsV,mv_nil,mv_lo sttV_lo]) (by simp only []; omega) ?_
  simp (disch:=omega) only [upd_ne,upd_eq]
end
section
def stepV (id:Nat) (k:Int):V :=
  if k=1 then .fn 91 [.ptr id 0 0] [] else if k=2 then .fn 92 [.ptr id 0 0] [] else if k=3 then .fn 93 [.ptr id 0 0] [] else if k=4 then .fn 94 [.ptr id 0 0] [] else if k=5 then .fn 95 [.ptr id 0 0] [] else if k=6 then .fn 96 [.ptr id 0 0] [] else if k=7 then .fn 97 [.ptr id 0 0] [] else if k=8 then .fn 98 [.ptr id 0 0] [] else if k=9 then .fn 99 [.ptr id 0 0] [] else if k=10 then .fn 100 [.ptr id 0 0] [] else .nilf
set_option maxHeartbeats 1000000 in
theorem do_step (w:Wd) (c:Cmd) (H:Hp) (id:Nat) (hid:id < H.n) (ho:H.m id=some (.arr 12 [drV w c])):ACall Tryz.prog 38 [.ptr id 0 0] H [id] (stepV id c.kind) [] 0:=by
  refine ena38 (by simp) (by simp [lowL,V.low,hid]) (by simp [hid,ho,Ob.low,lowL,drV_low]) (by simp) ?_
  have hoo:only [id] H.m id=some (.arr 12 [drV w c]):=by simp [only,ho]
  unfold drV drU at hoo
  by_cases k1:c.kind=1
  · have hz:stepV id c.kind=.fn 91 [.ptr id 0 0] []:=by unfold stepV; rw [ if_pos k1]
    rw [hz]
    simp (maxSteps:=1000000) (disch:=omega) only [rg,gD,simprocAttr,c38,hoo,eq_true k1]
    exact fin_A (l:=[_]) rfl (.inl rfl) (by simp) (fun j => .inr rfl)
  by_cases k2:c.kind=2
  · have hz:stepV id c.kind=.fn 92 [.ptr id 0 0] []:=by unfold stepV; rw [if_neg k1,if_pos k2]
    rw [hz]
    simp (maxSteps:=1000000) (disch:=omega) only [rg,gD,simprocAttr,c38,hoo,eq_true k2,eq_false k1]
    exact fin_A (l:=[_]) rfl (.inl rfl) (by simp) (fun j => .inr rfl)
  by_cases k3:c.kind=3
  · have hz:stepV id c.kind=.fn 93 [.ptr id 0 0] []:=by unfold stepV; rw [if_neg k1,if_neg k2,if_pos k3]
    rw [hz]
    simp (maxSteps:=1000000) (disch:=omega) only [rg,gD,simprocAttr,c38,hoo,eq_true k3,eq_false k1,eq_false k2]
    exact fin_A (l:=[_]) rfl (.inl rfl) (by simp) (fun j => .inr rfl)
  by_cases k4:c.kind=4
  · have hz:stepV id c.kind=.fn 94 [.ptr id 0 0] []:=by unfold stepV; rw [if_neg k1,if_neg k2,if_neg k3,if_pos k4]
    rw [hz]
    simp (maxSteps:=1000000) (disch:=omega) only [rg,gD,simprocAttr,c38,hoo,eq_true k4,eq_false k1,eq_false k2,eq_false k3]
    exact fin_A (l:=[_]) rfl (.inl rfl) (by simp) (fun j => .inr rfl)
  by_cases k5:c.kind=5
  · have hz:stepV id c.kind=.fn 95 [.ptr id 0 0] []:=by unfold stepV; rw [if_neg k1,if_neg k2,if_neg k3,if_neg k4,if_pos k5]
    rw [hz]
    simp (maxSteps:=1000000) (disch:=omega) only [rg,gD,simprocAttr,c38,hoo,eq_true k5,eq_false k1,eq_false k2,eq_false k3,eq_false k4]
    exact fin_A (l:=[_]) rfl (.inl rfl) (by simp) (fun j => .inr rfl)
  by_cases k6:c.kind=6
  · have hz:stepV id c.kind=.fn 96 [.ptr id 0 0] []:=by unfold stepV; rw [if_neg k1,if_neg k2,if_neg k3,if_neg k4,if_neg k5,if_pos k6]
    rw [hz]
    simp (maxSteps:=1000000) (disch:=omega) only [rg,gD,simprocAttr,c38,hoo,eq_true k6,eq_false k1,eq_false k2,eq_false k3,eq_false k4,eq_false k5]
    exact fin_A (l:=[_]) rfl (.inl rfl) (by simp) (fun j => .inr rfl)
  by_cases k7:c.kind=7
  · have hz:stepV id c.kind=.fn 97 [.ptr id 0 0] []:=by unfold stepV; rw [if_neg k1,if_neg k2,if_neg k3,if_neg k4,if_neg k5,if_neg k6,if_pos k7]
    rw [hz]
    simp (maxSteps:=1000000) (disch:=omega) only [rg,gD,simprocAttr,c38,hoo,eq_true k7,eq_false k1,eq_false k2,eq_false k3,eq_false k4,eq_false k5,eq_false k6]
    exact fin_A (l:=[_]) rfl (.inl rfl) (by simp) (fun j => .inr rfl)
  by_cases k8:c.kind=8
  · have hz:stepV id c.kind=.fn 98 [.ptr id 0 0] []:=by unfold stepV; rw [if_neg k1,if_neg k2,if_neg k3,if_neg k4,if_neg k5,if_neg k6,if_neg k7,if_pos k8]
    rw [hz]
    simp (maxSteps:=1000000) (disch:=omega) only [rg,gD,simprocAttr,c38,hoo,eq_true k8,eq_false k1,eq_false k2,eq_false k3,eq_false k4,eq_false k5,eq_false k6,eq_false k7]
    exact fin_A (l:=[_]) rfl (.inl rfl) (by simp) (fun j => .inr rfl)
  by_cases k9:c.kind=9
  · have hz:stepV id c.kind=.fn 99 [.ptr id 0 0] []:=by unfold stepV; rw [if_neg k1,if_neg k2,if_neg k3,if_neg k4,if_neg k5,if_neg k6,if_neg k7,if_neg k8,if_pos k9]
    rw [hz]
    simp (maxSteps:=1000000) (disch:=omega) only [rg,gD,simprocAttr,c38,hoo,eq_true k9,eq_false k1,eq_false k2,eq_false k3,eq_false k4,eq_false k5,eq_false k6,eq_false k7,eq_false k8]
    exact fin_A (l:=[_]) rfl (.inl rfl) (by simp) (fun j => .inr rfl)
  by_cases k10:c.kind=10
  · have hz:stepV id c.kind=.fn 100 [.ptr id 0 0] []:=by unfold stepV; rw [if_neg k1,if_neg k2,if_neg k3,if_neg k4,if_neg k5,if_neg k6,if_neg k7,if_neg k8,if_neg k9,if_pos k10]
    rw [hz]
    simp (maxSteps:=1000000) (disch:=omega) only [rg,gD,simprocAttr,c38,hoo,eq_true k10,eq_false k1,eq_false k2,eq_false k3,eq_false k4,eq_false k5,eq_false k6,eq_false k7,eq_false k8,eq_false k9]
    exact fin_A (l:=[_]) rfl (.inl rfl) (by simp) (fun j => .inr rfl)
  have hz:stepV id c.kind=.nilf:=by unfold stepV; rw [if_neg k1,if_neg k2,if_neg k3,if_neg k4,if_neg k5,if_neg k6,if_neg k7,if_neg k8,if_neg k9,if_neg k10]
  rw [hz]
  simp (maxSteps:=1000000) (disch:=omega) only [rg,gD,simprocAttr,c38,hoo,eq_false k1,eq_false k2,eq_false k3,eq_false k4,eq_false k5,eq_false k6,eq_false k7,eq_false k8,eq_false k9,eq_false k10]
  exact fin_A (l:=[_]) rfl (.inl rfl) (by simp) (fun j => .inr rfl)
theorem step_cases (w:Wd) (c:Cmd) (ok:WdOk w) (hw:WR w) (hdd:okDagL c.dag) :
    (∃ mth,(∀ id,stepV id c.kind=.fn mth [.ptr id 0 0] [])∧DoC mth w c (kindW w c))∨((∀ id,stepV id c.kind=.nilf)∧kindW w c=(w,whyA 230)):=by
  by_cases k1:c.kind=1
  · left
    refine ⟨91,fun id => by unfold stepV; rw [ if_pos k1], ?_⟩
    have hz:kindW w c=graphS w c.dag:=by unfold kindW; rw [ if_pos k1]
    rw [hz]; exact do_graph w c ok hw hdd
  by_cases k2:c.kind=2
  · left
    refine ⟨92,fun id => by unfold stepV; rw [if_neg k1,if_pos k2], ?_⟩
    have hz:kindW w c=beginS w c.key c.name:=by unfold kindW; rw [if_neg k1,if_pos k2]
    rw [hz]; exact do_start w c ok hw
  by_cases k3:c.kind=3
  · left
    refine ⟨93,fun id => by unfold stepV; rw [if_neg k1,if_neg k2,if_pos k3], ?_⟩
    have hz:kindW w c=pollS w:=by unfold kindW; rw [if_neg k1,if_neg k2,if_pos k3]
    rw [hz]; exact do_poll w c ok hw
  by_cases k4:c.kind=4
  · left
    refine ⟨94,fun id => by unfold stepV; rw [if_neg k1,if_neg k2,if_neg k3,if_pos k4], ?_⟩
    have hz:kindW w c=toldW w (fun t s => tbeatS t s w.now) c.token:=by unfold kindW; rw [if_neg k1,if_neg k2,if_neg k3,if_pos k4]
    rw [hz]; exact do_beat w c ok hw
  by_cases k5:c.kind=5
  · left
    refine ⟨95,fun id => by unfold stepV; rw [if_neg k1,if_neg k2,if_neg k3,if_neg k4,if_pos k5], ?_⟩
    have hz:kindW w c=toldW w (fun t s => tdoneS s c.text) c.token:=by unfold kindW; rw [if_neg k1,if_neg k2,if_neg k3,if_neg k4,if_pos k5]
    rw [hz]; exact do_done w c ok hw
  by_cases k6:c.kind=6
  · left
    refine ⟨96,fun id => by unfold stepV; rw [if_neg k1,if_neg k2,if_neg k3,if_neg k4,if_neg k5,if_pos k6], ?_⟩
    have hz:kindW w c=toldW w (fun t s => tfailS t s w.now) c.token:=by unfold kindW; rw [if_neg k1,if_neg k2,if_neg k3,if_neg k4,if_neg k5,if_pos k6]
    rw [hz]; exact do_fail w c ok hw
  by_cases k7:c.kind=7
  · left
    refine ⟨97,fun id => by unfold stepV; rw [if_neg k1,if_neg k2,if_neg k3,if_neg k4,if_neg k5,if_neg k6,if_pos k7], ?_⟩
    have hz:kindW w c=cancelW w c.key:=by unfold kindW; rw [if_neg k1,if_neg k2,if_neg k3,if_neg k4,if_neg k5,if_neg k6,if_pos k7]
    rw [hz]; exact do_cancel w c ok hw
  by_cases k8:c.kind=8
  · left
    refine ⟨98,fun id => by unfold stepV; rw [if_neg k1,if_neg k2,if_neg k3,if_neg k4,if_neg k5,if_neg k6,if_neg k7,if_pos k8], ?_⟩
    have hz:kindW w c=tickW w c.time:=by unfold kindW; rw [if_neg k1,if_neg k2,if_neg k3,if_neg k4,if_neg k5,if_neg k6,if_neg k7,if_pos k8]
    rw [hz]; exact do_tick w c
  by_cases k9:c.kind=9
  · left
    refine ⟨99,fun id => by unfold stepV; rw [if_neg k1,if_neg k2,if_neg k3,if_neg k4,if_neg k5,if_neg k6,if_neg k7,if_neg k8,if_pos k9], ?_⟩
    have hz:kindW w c=stateW w c.key:=by unfold kindW; rw [if_neg k1,if_neg k2,if_neg k3,if_neg k4,if_neg k5,if_neg k6,if_neg k7,if_neg k8,if_pos k9]
    rw [hz]; exact do_state w c ok hw
  by_cases k10:c.kind=10
  · left
    refine ⟨100,fun id => by unfold stepV; rw [if_neg k1,if_neg k2,if_neg k3,if_neg k4,if_neg k5,if_neg k6,if_neg k7,if_neg k8,if_neg k9,if_pos k10], ?_⟩
    have hz:kindW w c=(w,whyA 0):=by unfold kindW; rw [if_neg k1,if_neg k2,if_neg k3,if_neg k4,if_neg k5,if_neg k6,if_neg k7,if_neg k8,if_neg k9,if_pos k10]
    rw [hz]; exact do_sync w c
  right
  exact ⟨fun id => by unfold stepV; rw [if_neg k1,if_neg k2,if_neg k3,if_neg k4,if_neg k5,if_neg k6,if_neg k7,if_neg k8,if_neg k9,if_neg k10],by unfold kindW; rw [if_neg k1,if_neg k2,if_neg k3,if_neg k4,if_neg k5,if_neg k6,if_neg k7,if_neg k8,if_neg k9,if_neg k10]⟩
abbrev Same (w:Wd) (p:Wd×Ans):Prop:=p.2.why≠0→p.1=w
theorem Same.w {w:Wd} {a:Ans}:Same w (w,a):=fun _ => rfl
theorem Same.z {w w':Wd} {a:Ans} (h:a.why=0):Same w (w',a):=fun hh => absurd h hh
theorem kind_same (w:Wd) (c:Cmd):Same w (kindW w c):=by
  unfold kindW
  by_cases k1:c.kind=1
  · rw [if_pos k1]; unfold graphS; repeat' split
    all_goals first | exact Same.w | exact Same.z rfl
  rw [if_neg k1]; by_cases k2:c.kind=2
  · rw [if_pos k2]; unfold beginS; repeat' split
    all_goals first | exact Same.w | exact Same.z rfl
  rw [if_neg k2]; by_cases k3:c.kind=3
  · rw [if_pos k3]; unfold pollS; repeat' split
    all_goals first | exact Same.w | exact Same.z rfl
  rw [if_neg k3]
  have ht:∀ f,Same w (toldW w f c.token):=fun f => by
    unfold toldW; repeat' split
    all_goals first | exact Same.w | exact Same.z rfl
  by_cases k4:c.kind=4
  · rw [if_pos k4]; exact ht _
  rw [if_neg k4]; by_cases k5:c.kind=5
  · rw [if_pos k5]; exact ht _
  rw [if_neg k5]; by_cases k6:c.kind=6
  · rw [if_pos k6]; exact ht _
  rw [if_neg k6]; by_cases k7:c.kind=7
  · rw [if_pos k7]; unfold cancelW; repeat' split
    all_goals first | exact Same.w | exact Same.z rfl
  rw [if_neg k7]; by_cases k8:c.kind=8
  · rw [if_pos k8]; unfold tickW; repeat' split
    all_goals first | exact Same.w | exact Same.z rfl
  rw [if_neg k8]; by_cases k9:c.kind=9
  · rw [if_pos k9]; unfold stateW; repeat' split
    all_goals first | exact Same.w | exact Same.z rfl
  rw [if_neg k9]; split<;>exact Same.w
theorem DoC.call {f:Nat} {w:Wd} {c:Cmd} {p:Wd×Ans} (h:DoC f w c p) {H:Hp} {id:Nat} {K:KI} (hid:id < H.n) (ho:H.m id=some (.arr 12 [drV w c])) (hk:∀ k,K (ansV p.2) [id] [(id,some (.arr 12 [drV p.1 c]))] k):CallA Tryz.prog f [.ptr id 0 0] H K:=by
  obtain ⟨k,h1⟩:=h H id hid ho
  exact ⟨_,_,_,_,h1,hk k⟩
theorem getC_why (a:Ans):getC none 0 (ansV a)=some (.int .i64 a.why):=rfl
open Classical in
set_option maxHeartbeats 1000000 in
theorem world_do (w:Wd) (c:Cmd) (ok:WdOk w) (hdd:okDagL c.dag):PCall Tryz.prog 14 [wdV w,cmdV c] (waV (doS w c)):=by
  have hnr:=ok.runs
  refine en14 (by simp) (by simp [closedL,wdV_closed,cmdV_closed]) ?_
  have hwr:=world_right w ok
  unfold wdV at hwr
  by_cases h:WR w
  case neg =>
    rw [decide_eq_false h] at hwr
    simp (maxSteps:=1000000) (disch:=omega) only [rg,gD,simprocAttr,c14,wdV,cmdV]
    refine ⟨_,hwr, ?_⟩
    simp (maxSteps:=1000000) (disch:=omega) only [rg,gD,simprocAttr,wdV]
    refine ⟨_,world_why 1, ?_⟩
    simp (maxSteps:=1000000) (disch:=omega) only [rg,gD,simprocAttr,ansV]
    (refine fin_x rfl ?_ ?_<;>simp [pack,lo,loL,V.closed,closedL,mv_closed,doS,h,waV,whyA,wdV,ansV,sttsV,mv_nil,mv_lo dagV_lo,mv_lo rnV_lo,mv_lo sttV_lo,mv_closed dagV_closed,rnV_closed,sttV_closed])
  have hds:doS w c=kindW w c:=by unfold doS; rw [if_pos h]
  rw [hds]
  rw [decide_eq_true h] at hwr
  have hsame:=kind_same w c
  simp (maxSteps:=1000000) (disch:=omega) only [rg,gD,simprocAttr,c14,wdV,cmdV]
  refine ⟨_,hwr, ?_⟩
  simp (maxSteps:=1000000) (disch:=omega) only [rg,gD,simprocAttr,wdV,cmdV]
  refine ⟨rfl, ?_⟩
  refine ⟨_,_,_,_,do_step w c _ 4 (by simp) (by simp (disch:=omega) only [upd_eq,upd_ne,wo_0,wo_1,wo_2,drV,drU]), ?_⟩
  rcases step_cases w c ok h hdd with ⟨mth,h1,h2⟩ | ⟨h1,h2⟩
  · generalize kindW w c=z at h2 hsame
    rw [h1]
    simp (maxSteps:=1000000) (disch:=omega) only [rg,gD,simprocAttr,wdV,cmdV]
    refine h2.call (by simp) (by simp (disch:=omega) only [upd_eq,upd_ne,wo_0,wo_1,wo_2,drV,drU]) fun k => ?_
    by_cases z0:z.2.why=0
    · simp (maxSteps:=1000000) (disch:=omega) only [rg,gD,simprocAttr,ansV,eq_true z0,drV,drU]
      refine ⟨by simp [compat,disj,nthL]<;>omega, ?_⟩
      refine fin_x (by simp (disch:=omega) only [r14,resE,find,loadO,upd_eq,upd_ne,reduceIte,Nat.reduceEqDiff]; rfl) ?_ ?_<;>simp [pack,lo,loL,V.closed,closedL,mv_closed,waV,wdV,ansV,sttsV,mv_nil,mv_lo dagV_lo,mv_lo rnV_lo,mv_lo sttV_lo,mv_closed dagV_closed,rnV_closed,sttV_closed]
    · have hz:=hsame z0
      simp (maxSteps:=1000000) (disch:=omega) only [rg,gD,simprocAttr,ansV,eq_false z0,drV,drU]
      refine ⟨by simp [compat,disj,nthL]<;>omega, ?_⟩
      refine fin_x (by simp (disch:=omega) only [r14,resE,find,loadO,upd_eq,upd_ne,reduceIte,Nat.reduceEqDiff]; rfl) ?_ ?_<;>simp [pack,lo,loL,V.closed,closedL,mv_closed,waV,wdV,ansV,sttsV,mv_nil,mv_lo dagV_lo,mv_lo rnV_lo,mv_lo sttV_lo,mv_closed dagV_closed,rnV_closed,sttV_closed,hz]
  · rw [h1,h2]
    simp (maxSteps:=1000000) (disch:=omega) only [rg,gD,simprocAttr,wdV,cmdV]
    refine ⟨_,world_why 230, ?_⟩
    simp (maxSteps:=1000000) (disch:=omega) only [rg,gD,simprocAttr,ansV]
    (refine fin_x rfl ?_ ?_<;>simp [pack,lo,loL,V.closed,closedL,mv_closed,waV,whyA,wdV,ansV,sttsV,mv_nil,mv_lo dagV_lo,mv_lo rnV_lo,mv_lo sttV_lo,mv_closed dagV_closed,rnV_closed,sttV_closed])
end
abbrev resOk (s:Stt):Prop:=s.result.length≤4611686018427387904
theorem res_z:resOk zS:=by simp [resOk,zS]
theorem res_cancel (s:Stt) (h:resOk s):resOk (tcancelS s):=by unfold tcancelS; split<;>exact h
theorem res_ready (s:Stt) (h:resOk s):resOk (treadyS s):=by unfold treadyS; split<;>exact h
theorem res_fail (t:Task) (s:Stt) (now:Int) (h:resOk s):resOk (tfailS t s now).1:=by
  unfold tfailS; split
  · exact res_z
  · split<;>exact h
theorem res_beat (t:Task) (s:Stt) (now:Int) (h:resOk s):resOk (tbeatS t s now).1:=by
  unfold tbeatS; split
  · exact res_z
  · exact h
theorem res_done (s:Stt) (r:Str) (h:resOk s):resOk (tdoneS s r).1:=by
  unfold tdoneS; split
  · exact res_z
  · split
    · exact res_z
    · rename_i h2; simp only [resOk]; omega
theorem res_lease (t:Task) (s:Stt) (now token:Int) (h:resOk s):resOk (tleaseS t s now token).1:=by
  unfold tleaseS; split
  · exact res_z
  · split
    · exact res_z
    · exact h
theorem res_expire (t:Task) (s:Stt) (now:Int) (h:resOk s):resOk (texpireS t s now):=by
  unfold texpireS; split
  · exact h
  · exact res_fail t s _ h
theorem res_settle {r:Rn} (now:Int) (h:∀ s∈r.states,resOk s):∀ s∈(settleS now r).states,resOk s :=
  rndS_all (p:=resOk) res_cancel res_ready (fun t s => res_expire t s now) h _
structure Shr (r r':Rn):Prop where
  shp:Shp r r'
  res:∀ s∈r'.states,resOk s
theorem Shr.ok {r r':Rn} (h:Shr r r') (ok:RnOk r) (hr:RnR r):RnOk r'∧RnL r':=by
  obtain ⟨h1,h2,h3,h4⟩:=hr.small
  refine ⟨⟨by rw [h.shp.key]; exact ok.key,by rw [h.shp.dag]; exact ok.needs,by rw [h.shp.dag]; exact ok.tasks,by rw [h.shp.len]; exact ok.states,h.res⟩,⟨?_,by rw [h.shp.len]; omega⟩⟩
  rw [h.shp.dag]; exact ⟨ok.tasks,ok.needs⟩
theorem lease_shr {r:Rn} {now token:Int} (hr:RnR r) (ok:RnOk r) (h:(leaseS now token r).2.2=0):Shr r (leaseS now token r).1:=by
  have hs:=settleS_shp now r
  have hres:=res_settle now ok.results
  have hlen:=hr.len
  unfold leaseS leaseQ at h ⊢
  split at h
  · cases h
  split at h
  · cases h
  split at h
  · cases h
  rename_i h1 h2 h3
  rw [if_neg h1,if_neg h2,if_neg h3]
  split at h
  · rename_i i hi
    simp only [hi]
    obtain ⟨hg,_,_⟩:=fndS_get hi
    rw [leaseAt_get (by rw [hs.dag,← hlen,← hs.len]; exact hg) hg]
    exact ⟨hs.trans (withS_shp _ _ _),withS_all hres (res_lease _ _ _ _ (hres _ (List.getElem_mem hg)))⟩
  · cases h
theorem told_shr {r:Rn} {now token:Int} {f:Task→Stt→Stt×Int} (ok:RnOk r) (hf:∀ t s,resOk s→resOk (f t s).1) (h:(toldS now f token r).2=0):Shr r (toldS now f token r).1:=by
  have hs:=settleS_shp now r
  have hres:=res_settle now ok.results
  unfold toldS toldQ at h ⊢
  split at h
  · cases h
  · split at h
    · split at h
      · rename_i hz; exact absurd h hz
      · rename_i i _ _ t s _ hss hz
        simp only [hz,if_false]
        have hm:s∈(settleS now r).states:=List.mem_of_getElem? hss
        exact ⟨hs.trans ((withS_shp _ _ _).trans (mendS_shp _)),mendS_all res_cancel res_ready (withS_all hres (hf t s (hres s hm)))⟩
    · cases h
theorem cancel_shr {r:Rn} {now:Int} (ok:RnOk r) (h:(cancelS now r).2=0):Shr r (cancelS now r).1:=by
  have hs:=settleS_shp now r
  have hres:=res_settle now ok.results
  unfold cancelS cancelQ at h ⊢
  split at h
  · cases h
  · rename_i hz; rw [if_neg hz]
    exact ⟨⟨hs.key,hs.dag,(canL_len _ _).trans hs.len⟩,canL_all res_cancel hres _⟩
structure WdM (w:Wd):Prop where
  ok:WdOk w
  run:∀ r∈w.runs,RnL r
theorem WdM.L {w:Wd} (h:WdM w):WdL w:=⟨by have:=h.ok.dags; omega,by have:=h.ok.runs; omega,h.ok.dag,h.run⟩
theorem WdM.set {w w':Wd} {i:Nat} {r:Rn} (h:WdM w) (e1:w'.dags=w.dags) (e2:w'.runs=w.runs.set i r) (h1:RnOk r) (h2:RnL r):WdM w':=by
  have hm:∀ x∈w'.runs,x∈w.runs∨x=r:=fun x hx => by rw [e2] at hx; exact List.mem_or_eq_of_mem_set hx
  refine ⟨⟨by rw [e1]; exact h.ok.dags,by rw [e2,List.length_set]; exact h.ok.runs,by rw [e1]; exact h.ok.dag,fun x hx => ?_⟩,fun x hx => ?_⟩
  · rcases hm x hx with hx | rfl
    · exact h.ok.run x hx
    · exact h1
  · rcases hm x hx with hx | rfl
    · exact h.run x hx
    · exact h2
theorem mem_put {α:Type} {l:List α} {i e:Nat} {a x:α} (h:x∈l.take i++a::l.drop (i+e)):x∈l∨x=a:=by
  rcases List.mem_append.1 h with h | h
  · exact .inl (List.mem_of_mem_take h)
  · rcases List.mem_cons.1 h with h | h
    · exact .inr h
    · exact .inl (List.mem_of_mem_drop h)
theorem new_ok {key:Str} {d:Dag} (hk:key.length≤4611686018427387904) (hd:okDagL d) (h:dagRightS d=0):RnOk (newS key d)∧RnL (newS key d):=by
  obtain ⟨h1,h2,h3⟩:=dag_okn h
  have hs:=mendS_shp (startS key d)
  have hst:=startS_len key d
  have hlen:(newS key d).states.length=d.tasks.length:=hs.len.trans hst
  have hdag:(newS key d).dag=d:=hs.dag
  refine ⟨⟨by rw [show (newS key d).key=key from hs.key]; exact hk,by rw [hdag]; exact hd.2,by rw [hdag]; exact hd.1,by omega,mendS_all res_cancel res_ready fun s hs => ?_⟩,⟨by rw [hdag]; exact hd,by omega⟩⟩
  simp only [startS,List.mem_replicate] at hs
  rw [hs.2]; exact res_z
theorem kind_M (w:Wd) (c:Cmd) (h:WdM w) (hw:WR w) (hd:okDagL c.dag):WdM (kindW w c).1:=by
  have htold:∀ f:Task→Stt→Stt×Int,(∀ t s,resOk s→resOk (f t s).1)→WdM (toldW w f c.token).1:=fun f hf => by
    unfold toldW
    split
    · exact h
    · rename_i i hi
      obtain ⟨hg,_,_⟩:=fndS_get hi
      rw [getD_get hg]
      split
      · exact h
      · rename_i hz
        have hm:=List.getElem_mem hg
        have hz':(toldS w.now f c.token w.runs[i]).2=0:=Classical.not_not.1 hz
        obtain ⟨k1,k2⟩:=(told_shr (h.ok.run _ hm) hf hz').ok (h.ok.run _ hm) (hw.runs _ hm).2
        exact h.set rfl rfl k1 k2
  unfold kindW
  by_cases k1:c.kind=1
  · rw [if_pos k1]; unfold graphS; repeat' split
    all_goals first | exact h | skip
    have hn:=hw.ndags
    refine ⟨⟨?_,h.ok.runs,fun d hx => ?_,h.ok.run⟩,h.run⟩
    · simp only [putD,List.length_append,List.length_take,List.length_cons,List.length_drop]; omega
    · rcases mem_put (e:=0) hx with hx | rfl
      · exact h.ok.dag d hx
      · exact hd
  rw [if_neg k1]; by_cases k2:c.kind=2
  · rw [if_pos k2]; unfold beginS; repeat' split
    all_goals first | exact h | skip
    rename_i hk1 hin hk3 hk4
    have hn:=hw.nruns
    have hin':c.name∈dagsN w.dags:=Classical.not_not.1 hin
    obtain ⟨hi,hnm⟩:=lbD_get hw.rdags hin'
    rw [getD_get hi]
    have hm:=List.getElem_mem hi
    obtain ⟨g1,g2⟩:=new_ok (key:=c.key) (by omega) (h.ok.dag _ hm) (hw.dags _ hm)
    refine ⟨⟨h.ok.dags, ?_,h.ok.dag,fun d hx => ?_⟩,fun d hx => ?_⟩
    · simp only [putR,List.length_append,List.length_take,List.length_cons,List.length_drop]; omega
    · rcases mem_put hx with hx | rfl
      · exact h.ok.run d hx
      · exact g1
    · rcases mem_put hx with hx | rfl
      · exact h.run d hx
      · exact g2
  rw [if_neg k2]; by_cases k3:c.kind=3
  · rw [if_pos k3]; unfold pollS; split
    · exact h
    split
    · exact h
    · rename_i i hi
      obtain ⟨hg,hp,_⟩:=fndS_get hi
      rw [getD_get hg]
      have hm:=List.getElem_mem hg
      have hz:(leaseS w.now (w.token+1) w.runs[i]).2.2=0:=by simpa [leaseP] using hp
      obtain ⟨g1,g2⟩:=(lease_shr (hw.runs _ hm).2 (h.ok.run _ hm) hz).ok (h.ok.run _ hm) (hw.runs _ hm).2
      exact h.set rfl rfl g1 g2
  rw [if_neg k3]; by_cases k4:c.kind=4
  · rw [if_pos k4]; exact htold _ fun t s => res_beat t s _
  rw [if_neg k4]; by_cases k5:c.kind=5
  · rw [if_pos k5]; exact htold _ fun t s => res_done s _
  rw [if_neg k5]; by_cases k6:c.kind=6
  · rw [if_pos k6]; exact htold _ fun t s => res_fail t s _
  rw [if_neg k6]; by_cases k7:c.kind=7
  · rw [if_pos k7]; unfold cancelW; split
    · exact h
    split
    · exact h
    · rename_i hc hz
      obtain ⟨hi,hnm⟩:=lbR_get hw.rruns (Classical.not_not.1 hc)
      rw [getD_get hi] at hz ⊢
      have hm:=List.getElem_mem hi
      have hz':(cancelS w.now w.runs[lbR c.key w.runs]).2=0:=Classical.not_not.1 hz
      obtain ⟨g1,g2⟩:=(cancel_shr (h.ok.run _ hm) hz').ok (h.ok.run _ hm) (hw.runs _ hm).2
      exact h.set rfl rfl g1 g2
  rw [if_neg k7]; by_cases k8:c.kind=8
  · rw [if_pos k8]; unfold tickW; split
    · exact h
    · exact ⟨⟨h.ok.dags,h.ok.runs,h.ok.dag,h.ok.run⟩,h.run⟩
  rw [if_neg k8]; by_cases k9:c.kind=9
  · rw [if_pos k9]; unfold stateW; split<;>exact h
  rw [if_neg k9]; split<;>exact h
theorem do_M (w:Wd) (c:Cmd) (h:WdM w) (hd:okDagL c.dag):WdM (doS w c).1:=by
  unfold doS; split
  · rename_i hw; exact kind_M w c h hw hd
  · exact h
theorem kind_A (w:Wd) (c:Cmd) (hw:WR w):(kindW w c).2.states.length≤1000000:=by
  have z:∀ n,(whyA n).states.length≤1000000:=fun n => by simp [whyA]
  unfold kindW graphS beginS pollS toldW cancelW tickW
  repeat' split
  all_goals first | exact z _ | (simp; done) | skip
  unfold stateW
  split
  · exact z _
  · rename_i hc
    obtain ⟨hi,hnm⟩:=lbR_get hw.rruns (Classical.not_not.1 hc)
    rw [getD_get hi]
    have:=(hw.runs _ (List.getElem_mem hi)).2.small.2.1
    show (settleS _ _).states.length≤_
    rw [(settleS_shp _ _).len]; omega
theorem do_A (w:Wd) (c:Cmd):(doS w c).2.states.length≤1000000:=by
  unfold doS; split
  · rename_i hw; exact kind_A w c hw
  · simp [whyA]
def c13:C :=
  (.seq
 (.reg false [p (.box 4 (.v 0)),
 p (.alloc 4 (.agg [.int .i64 0,.int .i64 0,.fsl .nil 2 [],.fsl .nil 5 []]))] [(1,.r 1),(2,.r 0)])
 (.seq
 (.reg true [p (.fad 2 (.v 1)),
 p (.load (none) (.r 0)),
 p (.fad 2 (.v 1)),
 p (.load (none) (.r 0)),
 p (.len false (.r 0)),
 p (.mnx false (.r 0) [.k (.int .i64 20)]),
 p (.slc 2 (.r 4) none (some (.r 0)) none),
 p (.fad 3 (.v 1)),
 p (.load (none) (.r 0)),
 p (.fad 3 (.v 1)),
 p (.load (none) (.r 0)),
 p (.len false (.r 0)),
 p (.mnx false (.r 0) [.k (.int .i64 70)]),
 p (.slc 5 (.r 4) none (some (.r 0)) none),
 p (.fad 2 (.v 1)),
 ⟨.store (none) (.r 0) (.r 8),none,[1]⟩,
 p (.fad 3 (.v 1)),
 p (.store (none) (.r 0) (.r 3))] [(1,.v 1),(2,.v 2)])
 (.seq
 (.seq
 (.reg false [p (.fad 2 (.v 1)),
 p (.load (none) (.r 0)),
 p (.len false (.r 0)),
 p (.mov (.k (.int .i64 0)))] [(1,.v 1),(2,.v 2),(24,.r 2),(25,.r 1),(26,.r 0)])
 (.block 0
 (.loop
 (.seq
 (.reg false [p (.bin .lss (.v 26) (.v 25))] [(1,.v 1),(2,.v 2),(24,.v 24),(25,.v 25),(26,.v 26),(27,.r 0)])
 (.seq
 (.cond (.v 27)
 .skip
 (.exit 0))
 (.seq
 (.block 1
 (.seq
 (.reg false [p (.iad 2 (.v 24) (.v 26)),
 p (.load (some 2) (.r 0)),
 p (.alloc 2 (.agg [.str [],.fsl .nil 4 []])),
 p (.store (some 2) (.r 0) (.r 1))] [(1,.v 1),(2,.v 2),(4,.r 1),(24,.v 24),(25,.v 25),(26,.v 26)])
 (.seq
 (.reg false [p (.fad 1 (.v 4)),
 p (.load (none) (.r 0)),
 p (.len false (.r 0)),
 p (.bin .gtr (.r 0) (.k (.int .i64 20)))] [(1,.v 1),(2,.v 2),(24,.v 24),(25,.v 25),(26,.v 26),(33,.r 0)])
 (.cond (.v 33)
 (.seq
 (.reg false [p (.build [.int .i64 0,.int .i64 0,.fsl .nil 2 [],.fsl .nil 5 []] []),
 p (.store (some 4) (.v 2) (.r 0))] [(2,.v 2)])
 .ret)
 .skip))))
 (.reg false [p (.bin .add (.v 26) (.k (.int .i64 1))),
 p (.mov (.r 0))] [(1,.v 1),(2,.v 2),(24,.v 24),(25,.v 25),(26,.r 0)])))))))
 (.frz
 (.seq
 (.seq
 (.reg false [p (.fad 3 (.v 1)),
 p (.load (none) (.r 0)),
 p (.len false (.r 0)),
 p (.mov (.k (.int .i64 0)))] [(1,.v 1),(2,.v 2),(37,.r 2),(38,.r 1),(39,.r 0)])
 (.block 2
 (.loop
 (.seq
 (.reg false [p (.bin .lss (.v 39) (.v 38))] [(1,.v 1),(2,.v 2),(37,.v 37),(38,.v 38),(39,.v 39),(40,.r 0)])
 (.seq
 (.cond (.v 40)
 .skip
 (.exit 2))
 (.seq
 (.block 3
 (.seq
 (.reg false [p (.iad 5 (.v 37) (.v 39)),
 p (.load (some 5) (.r 0)),
 p (.alloc 5 (.agg [.str [],.str [],.fsl .nil 4 [],.int .i64 0,.fsl .nil 5 []])),
 p (.store (some 5) (.r 0) (.r 1))] [(1,.v 1),(2,.v 2),(6,.r 1),(37,.v 37),(38,.v 38),(39,.v 39)])
 (.seq
 (.reg false [p (.fad 4 (.v 6)),
 p (.load (none) (.r 0)),
 p (.len false (.r 0)),
 p (.bin .gtr (.r 0) (.k (.int .i64 20))),
 p (.mov (.r 0)),
 ⟨.fad 1 (.v 6),some (0,false),[]⟩,
 ⟨.fad 1 (.r 0),some (1,false),[]⟩,
 ⟨.load (none) (.r 0),some (2,false),[]⟩,
 ⟨.len false (.r 0),some (3,false),[]⟩,
 ⟨.bin .gtr (.r 0) (.k (.int .i64 20)),some (4,false),[]⟩,
 p (.pick (.r 5) (.k (.bool true)) (.r 0))] [(1,.v 1),(2,.v 2),(37,.v 37),(38,.v 38),(39,.v 39),(53,.r 0)])
 (.cond (.v 53)
 (.seq
 (.reg false [p (.build [.int .i64 0,.int .i64 0,.fsl .nil 2 [],.fsl .nil 5 []] []),
 p (.store (some 4) (.v 2) (.r 0))] [(2,.v 2)])
 .ret)
 .skip))))
 (.reg false [p (.bin .add (.v 39) (.k (.int .i64 1))),
 p (.mov (.r 0))] [(1,.v 1),(2,.v 2),(37,.v 37),(38,.v 38),(39,.r 0)])))))))
 (.frz
 (.seq
 (.reg false [p (.load (some 4) (.v 1)),
 p (.store (some 4) (.v 2) (.r 0))] [(2,.v 2)])
 .ret)))))))
def r13:List RV:=[.c 2 (some 4)]
theorem en13:EnP Tryz.prog 13 57 c13 r13:=mkEnP (by kernel_rfl) Tryz.func13 (by kernel_rfl) ⟨_,rfl,by kernel_rfl,by kernel_rfl⟩
def c16:C :=
  (.seq
 (.reg false [p (.mov (.k (.bool false)))] [])
 (.seq
 (.reg false [p (.build [.int .i64 0,.int .i64 0,.fsl .nil 2 [],.fsl .nil 5 []] []),
 p (.build [.int .i64 0,.str [],.str [],.int .i64 0,.int .i64 0,.str [],.str [],.fsl .nil 4 []] [(0,1,.k (.int .i64 3))]),
 p (.call true (.k (.fn 14 [] [])) [.r 1,.r 0]),
 p (.mov (.r 0)),
 p (.ext (.r 0) 0),
 p (.ext (.r 1) 1),
 p (.alloc 4 (.agg [.int .i64 0,.int .i64 0,.fsl .nil 2 [],.fsl .nil 5 []])),
 p (.alloc 6 (.agg [.int .i64 0,.str [],.int .i64 0,.int .i64 0,.int .i64 0,.fsl .nil 5 []])),
 p (.store (some 4) (.r 1) (.r 3)),
 p (.store (some 6) (.r 1) (.r 3))] [(2,.r 2)])
 (.seq
 (.reg false [p (.fad 0 (.v 2)),
 p (.load (none) (.r 0)),
 p (.bin .eql (.r 0) (.k (.int .i64 192))),
 p (.mov (.r 0)),
 ⟨.build [.int .i64 0,.int .i64 0,.fsl .nil 2 [],.fsl .nil 5 []] [],some (0,true),[]⟩,
 ⟨.call true (.k (.fn 17 [] [])) [.r 0],some (1,true),[]⟩,
 p (.pick (.r 2) (.r 0) (.k (.bool false))),
 p (.mov (.r 0))] [(0,.r 0)])
 .ret)))
def r16:List RV:=[.t 0]
theorem en16:EnP Tryz.prog 16 16 c16 r16:=mkEnP (by kernel_rfl) Tryz.func16 (by kernel_rfl) ⟨_,rfl,by kernel_rfl,by kernel_rfl⟩
def c3:C :=
  (.seq
 (.reg false [p (.box 4 (.v 0)),
 p (.box 8 (.v 1)),
 p (.mov (.k (.bool false)))] [(2,.r 2),(3,.r 1)])
 (.seq
 (.reg false [p (.load (some 4) (.v 2)),
 p (.call true (.k (.fn 13 [] [])) [.r 0]),
 p (.store (some 4) (.v 2) (.r 0))] [(2,.v 2),(3,.v 3)])
 (.seq
 (.reg false [p (.load (some 4) (.v 2)),
 p (.load (some 8) (.v 3)),
 p (.call true (.k (.fn 14 [] [])) [.r 1,.r 0]),
 p (.mov (.r 0)),
 p (.ext (.r 0) 0),
 p (.ext (.r 1) 1),
 p (.alloc 4 (.agg [.int .i64 0,.int .i64 0,.fsl .nil 2 [],.fsl .nil 5 []])),
 p (.alloc 6 (.agg [.int .i64 0,.str [],.int .i64 0,.int .i64 0,.int .i64 0,.fsl .nil 5 []])),
 p (.store (some 4) (.r 1) (.r 3)),
 p (.store (some 6) (.r 1) (.r 3))] [(2,.v 2),(3,.v 3),(5,.r 3),(6,.r 2)])
 (.seq
 (.reg false [p (.load (some 4) (.v 2)),
 p (.load (some 8) (.v 3)),
 p (.call true (.k (.fn 15 [] [])) [.r 1,.r 0]),
 p (.mov (.r 0)),
 p (.ext (.r 0) 0),
 p (.ext (.r 1) 1),
 p (.alloc 4 (.agg [.int .i64 0,.int .i64 0,.fsl .nil 2 [],.fsl .nil 5 []])),
 p (.alloc 6 (.agg [.int .i64 0,.str [],.int .i64 0,.int .i64 0,.int .i64 0,.fsl .nil 5 []])),
 p (.store (some 4) (.r 1) (.r 3)),
 p (.store (some 6) (.r 1) (.r 3))] [(2,.v 2),(5,.v 5),(6,.v 6),(7,.r 3),(8,.r 2)])
 (.seq
 (.reg true [p (.call true (.k (.fn 16 [] [])) []),
 p (.mov (.r 0)),
 ⟨.load (some 4) (.v 2),some (0,true),[]⟩,
 ⟨.call true (.k (.fn 17 [] [])) [.r 0],some (1,true),[]⟩,
 ⟨.load (some 4) (.v 2),some (2,true),[]⟩,
 ⟨.call true (.k (.fn 18 [] [])) [.r 0],some (3,true),[]⟩,
 ⟨.eqb false (.r 2) (.r 0),some (4,true),[]⟩,
 p (.pick (.r 5) (.r 0) (.k (.bool false))),
 p (.mov (.r 0)),
 ⟨.load (some 4) (.v 5),some (0,true),[]⟩,
 ⟨.load (some 4) (.v 7),some (1,true),[]⟩,
 ⟨.call true (.k (.fn 19 [] [])) [.r 1,.r 0],some (2,true),[]⟩,
 p (.pick (.r 3) (.r 0) (.k (.bool false))),
 p (.mov (.r 0)),
 ⟨.load (some 6) (.v 6),some (0,true),[]⟩,
 ⟨.load (some 6) (.v 8),some (1,true),[]⟩,
 ⟨.call true (.k (.fn 20 [] [])) [.r 1,.r 0],some (2,true),[]⟩,
 p (.pick (.r 3) (.r 0) (.k (.bool false))),
 p (.mov (.r 0))] [(4,.r 0)])
 .ret)))))
def r3:List RV:=[.t 4]
theorem en3:EnP Tryz.prog 3 41 c3 r3:=mkEnP (by kernel_rfl) Tryz.func3 (by kernel_rfl) ⟨_,rfl,by kernel_rfl,by kernel_rfl⟩
def c4:C :=
  (.seq
 (.reg false [p (.box 4 (.v 0)),
 p (.box 8 (.v 1)),
 p (.mov (.k (.bool false)))] [(2,.r 2),(3,.r 1)])
 (.seq
 (.reg false [p (.load (some 4) (.v 2)),
 p (.call true (.k (.fn 13 [] [])) [.r 0]),
 p (.store (some 4) (.v 2) (.r 0))] [(2,.v 2),(3,.v 3)])
 (.seq
 (.seq
 (.reg false [p (.load (some 4) (.v 2)),
 p (.call true (.k (.fn 18 [] [])) [.r 0]),
 p (.un .not (.r 0))] [(2,.v 2),(3,.v 3),(13,.r 0)])
 (.cond (.v 13)
 (.seq
 (.reg false [p (.call true (.k (.fn 16 [] [])) []),
 p (.mov (.r 0))] [(4,.r 0)])
 .ret)
 .skip))
 (.seq
 (.reg false [p (.load (some 4) (.v 2)),
 p (.load (some 8) (.v 3)),
 p (.call true (.k (.fn 14 [] [])) [.r 1,.r 0]),
 p (.mov (.r 0)),
 p (.ext (.r 0) 0),
 p (.ext (.r 1) 1),
 p (.alloc 4 (.agg [.int .i64 0,.int .i64 0,.fsl .nil 2 [],.fsl .nil 5 []])),
 p (.alloc 6 (.agg [.int .i64 0,.str [],.int .i64 0,.int .i64 0,.int .i64 0,.fsl .nil 5 []])),
 p (.store (some 4) (.r 1) (.r 3)),
 p (.store (some 6) (.r 1) (.r 3))] [(2,.v 2),(3,.v 3),(5,.r 3),(6,.r 2)])
 (.seq
 (.seq
 (.reg false [p (.load (some 4) (.v 5)),
 p (.call true (.k (.fn 18 [] [])) [.r 0]),
 p (.un .not (.r 0)),
 p (.mov (.r 0)),
 ⟨.fad 0 (.v 5),some (0,false),[]⟩,
 ⟨.load (none) (.r 0),some (1,false),[]⟩,
 ⟨.fad 0 (.v 2),some (2,false),[]⟩,
 ⟨.load (none) (.r 0),some (3,false),[]⟩,
 ⟨.bin .lss (.r 2) (.r 0),some (4,false),[]⟩,
 p (.pick (.r 5) (.k (.bool true)) (.r 0)),
 p (.mov (.r 0)),
 ⟨.fad 1 (.v 5),some (0,false),[]⟩,
 ⟨.load (none) (.r 0),some (1,false),[]⟩,
 ⟨.fad 1 (.v 2),some (2,false),[]⟩,
 ⟨.load (none) (.r 0),some (3,false),[]⟩,
 ⟨.bin .lss (.r 2) (.r 0),some (4,false),[]⟩,
 p (.pick (.r 5) (.k (.bool true)) (.r 0)),
 p (.mov (.r 0)),
 ⟨.fad 2 (.v 5),some (0,false),[]⟩,
 ⟨.load (none) (.r 0),some (1,false),[]⟩,
 ⟨.len false (.r 0),some (2,false),[]⟩,
 ⟨.fad 2 (.v 2),some (3,false),[]⟩,
 ⟨.load (none) (.r 0),some (4,false),[]⟩,
 ⟨.len false (.r 0),some (5,false),[]⟩,
 ⟨.bin .lss (.r 3) (.r 0),some (6,false),[]⟩,
 p (.pick (.r 7) (.k (.bool true)) (.r 0)),
 p (.mov (.r 0)),
 ⟨.fad 3 (.v 5),some (0,false),[]⟩,
 ⟨.load (none) (.r 0),some (1,false),[]⟩,
 ⟨.len false (.r 0),some (2,false),[]⟩,
 ⟨.fad 3 (.v 2),some (3,false),[]⟩,
 ⟨.load (none) (.r 0),some (4,false),[]⟩,
 ⟨.len false (.r 0),some (5,false),[]⟩,
 ⟨.bin .lss (.r 3) (.r 0),some (6,false),[]⟩,
 p (.pick (.r 7) (.k (.bool true)) (.r 0)),
 p (.mov (.r 0)),
 ⟨.fad 0 (.v 6),some (0,false),[]⟩,
 ⟨.load (none) (.r 0),some (1,false),[]⟩,
 ⟨.bin .neq (.r 0) (.k (.int .i64 0)),some (2,false),[]⟩,
 ⟨.mov (.r 0),some (3,false),[]⟩,
 ⟨.load (some 4) (.v 5),some (0,true),[]⟩,
 ⟨.load (some 4) (.v 2),some (1,true),[]⟩,
 ⟨.call true (.k (.fn 19 [] [])) [.r 1,.r 0],some (2,true),[]⟩,
 ⟨.un .not (.r 0),some (3,true),[]⟩,
 ⟨.pick (.r 4) (.r 0) (.k (.bool false)),some (8,false),[]⟩,
 p (.pick (.r 9) (.k (.bool true)) (.r 0))] [(3,.v 3),(5,.v 5),(6,.v 6),(66,.r 0)])
 (.cond (.v 66)
 (.seq
 (.reg false [p (.mov (.k (.bool false)))] [(4,.r 0)])
 .ret)
 .skip))
 (.seq
 (.seq
 (.reg false [p (.fad 0 (.v 3)),
 p (.load (none) (.r 0)),
 p (.bin .neq (.r 0) (.k (.int .i64 1))),
 p (.mov (.r 0)),
 ⟨.fad 0 (.v 3),some (0,true),[]⟩,
 ⟨.load (none) (.r 0),some (1,true),[]⟩,
 ⟨.bin .neq (.r 0) (.k (.int .i64 2)),some (2,true),[]⟩,
 p (.pick (.r 3) (.r 0) (.k (.bool false)))] [(3,.v 3),(5,.v 5),(6,.v 6),(74,.r 0)])
 (.cond (.v 74)
 (.seq
 (.reg false [p (.call true (.k (.fn 16 [] [])) []),
 p (.mov (.r 0))] [(4,.r 0)])
 .ret)
 .skip))
 (.seq
 (.reg false [p (.load (some 4) (.v 5)),
 p (.load (some 8) (.v 3)),
 p (.call true (.k (.fn 14 [] [])) [.r 1,.r 0]),
 p (.mov (.r 0)),
 p (.ext (.r 0) 0),
 p (.ext (.r 1) 1),
 p (.alloc 4 (.agg [.int .i64 0,.int .i64 0,.fsl .nil 2 [],.fsl .nil 5 []])),
 p (.alloc 6 (.agg [.int .i64 0,.str [],.int .i64 0,.int .i64 0,.int .i64 0,.fsl .nil 5 []])),
 p (.store (some 4) (.r 1) (.r 3)),
 p (.store (some 6) (.r 1) (.r 3))] [(5,.v 5),(6,.v 6),(7,.r 3),(8,.r 2)])
 (.seq
 (.reg false [p (.call true (.k (.fn 16 [] [])) []),
 p (.mov (.r 0)),
 ⟨.load (some 4) (.v 5),some (0,true),[]⟩,
 ⟨.load (some 4) (.v 7),some (1,true),[]⟩,
 ⟨.call true (.k (.fn 19 [] [])) [.r 1,.r 0],some (2,true),[]⟩,
 p (.pick (.r 3) (.r 0) (.k (.bool false))),
 p (.mov (.r 0)),
 ⟨.load (some 6) (.v 6),some (0,true),[]⟩,
 ⟨.load (some 6) (.v 8),some (1,true),[]⟩,
 ⟨.call true (.k (.fn 20 [] [])) [.r 1,.r 0],some (2,true),[]⟩,
 p (.pick (.r 3) (.r 0) (.k (.bool false))),
 p (.mov (.r 0))] [(4,.r 0)])
 .ret))))))))
def r4:List RV:=[.t 4]
def c6:C :=
  (.seq
 (.reg false [p (.box 4 (.v 0)),
 p (.mov (.k (.bool false)))] [(1,.v 1),(2,.v 2),(3,.v 3),(4,.r 1)])
 (.seq
 (.reg false [p (.load (some 4) (.v 4)),
 p (.call true (.k (.fn 13 [] [])) [.r 0]),
 p (.store (some 4) (.v 4) (.r 0))] [(1,.v 1),(2,.v 2),(3,.v 3),(4,.v 4)])
 (.seq
 (.seq
 (.reg false [p (.load (some 4) (.v 4)),
 p (.call true (.k (.fn 18 [] [])) [.r 0]),
 p (.un .not (.r 0))] [(1,.v 1),(2,.v 2),(3,.v 3),(4,.v 4),(19,.r 0)])
 (.cond (.v 19)
 (.seq
 (.reg false [p (.call true (.k (.fn 16 [] [])) []),
 p (.mov (.r 0))] [(8,.r 0)])
 .ret)
 .skip))
 (.seq
 (.reg false [p (.mov (.k (.fn 22 [] [])))] [(1,.v 1),(2,.v 2),(3,.v 3),(4,.v 4),(9,.r 0)])
 (.seq
 (.reg true [p (.mov (.v 9)),
 p (.mov (.v 9)),
 p (.load (some 4) (.v 4)),
 p (.mov (.v 1)),
 p (.call false (.r 2) [.r 1,.r 0]),
 p (.mov (.v 2)),
 p (.call false (.r 5) [.r 1,.r 0]),
 p (.mov (.v 9)),
 p (.mov (.v 9)),
 ⟨.load (some 4) (.v 4),none,[4,2]⟩,
 p (.mov (.v 2)),
 p (.call false (.r 2) [.r 1,.r 0]),
 p (.mov (.v 1)),
 p (.call false (.r 5) [.r 1,.r 0]),
 ⟨.alloc 4 (.agg [.int .i64 0,.int .i64 0,.fsl .nil 2 [],.fsl .nil 5 []]),none,[11,9,7,4,2,0]⟩,
 ⟨.alloc 4 (.agg [.int .i64 0,.int .i64 0,.fsl .nil 2 [],.fsl .nil 5 []]),none,[12,10,8,5,3,1,0]⟩,
 p (.store (some 4) (.r 1) (.r 9)),
 p (.store (some 4) (.r 1) (.r 3))] [(3,.v 3),(4,.v 4),(10,.r 3),(11,.r 2)])
 (.seq
 (.reg false [p (.load (some 4) (.v 10)),
 p (.alloc 4 (.agg [.int .i64 0,.int .i64 0,.fsl .nil 2 [],.fsl .nil 5 []])),
 p (.store (some 4) (.r 0) (.r 1))] [(3,.v 3),(4,.v 4),(10,.v 10),(11,.v 11),(12,.r 1)])
 (.seq
 (.seq
 (.reg false [p (.fad 0 (.v 10)),
 p (.load (none) (.r 0)),
 p (.build [.int .i64 0,.str [],.str [],.int .i64 0,.int .i64 0,.str [],.str [],.fsl .nil 4 []] [(0,1,.k (.int .i64 8)),(4,1,.r 0)]),
 p (.mov (.v 3)),
 p (.build [.int .i64 0,.str [],.str [],.int .i64 0,.int .i64 0,.str [],.str [],.fsl .nil 4 []] [(0,1,.k (.int .i64 9)),(1,1,.r 0)]),
 p (.build [.int .i64 0,.str [],.str [],.int .i64 0,.int .i64 0,.str [],.str [],.fsl .nil 4 []] [(0,1,.k (.int .i64 10))]),
 p (.build [.int .i64 0,.str [],.str [],.int .i64 0,.int .i64 0,.str [],.str [],.fsl .nil 4 []] [(0,1,.k (.int .i64 9))]),
 p (.bsl 8 [.r 4,.r 2,.r 1,.r 0]),
 p (.len false (.r 0)),
 p (.mov (.k (.int .i64 0)))] [(4,.v 4),(10,.v 10),(11,.v 11),(12,.v 12),(43,.r 2),(44,.r 1),(45,.r 0)])
 (.block 0
 (.loop
 (.seq
 (.reg false [p (.bin .lss (.v 45) (.v 44))] [(4,.v 4),(10,.v 10),(11,.v 11),(12,.v 12),(43,.v 43),(44,.v 44),(45,.v 45),(46,.r 0)])
 (.seq
 (.cond (.v 46)
 .skip
 (.exit 0))
 (.seq
 (.block 1
 (.seq
 (.reg false [p (.iad 8 (.v 43) (.v 45)),
 p (.load (some 8) (.r 0)),
 p (.alloc 8 (.agg [.int .i64 0,.str [],.str [],.int .i64 0,.int .i64 0,.str [],.str [],.fsl .nil 4 []])),
 p (.store (some 8) (.r 0) (.r 1))] [(4,.v 4),(10,.v 10),(11,.v 11),(12,.v 12),(14,.r 1),(43,.v 43),(44,.v 44),(45,.v 45)])
 (.reg false [p (.load (some 4) (.v 12)),
 p (.load (some 8) (.v 14)),
 p (.call true (.k (.fn 14 [] [])) [.r 1,.r 0]),
 p (.mov (.r 0)),
 p (.ext (.r 0) 0),
 p (.ext (.r 1) 1),
 p (.store (some 4) (.v 12) (.r 1))] [(4,.v 4),(10,.v 10),(11,.v 11),(12,.v 12),(43,.v 43),(44,.v 44),(45,.v 45)])))
 (.reg false [p (.bin .add (.v 45) (.k (.int .i64 1))),
 p (.mov (.r 0))] [(4,.v 4),(10,.v 10),(11,.v 11),(12,.v 12),(43,.v 43),(44,.v 44),(45,.r 0)])))))))
 (.frz
 (.seq
 (.reg false [p (.call true (.k (.fn 16 [] [])) []),
 p (.mov (.r 0)),
 ⟨.load (some 4) (.v 10),some (0,true),[]⟩,
 ⟨.load (some 4) (.v 11),some (1,true),[]⟩,
 ⟨.call true (.k (.fn 19 [] [])) [.r 1,.r 0],some (2,true),[]⟩,
 p (.pick (.r 3) (.r 0) (.k (.bool false))),
 p (.mov (.r 0)),
 ⟨.load (some 4) (.v 10),some (0,true),[]⟩,
 ⟨.load (some 4) (.v 12),some (1,true),[]⟩,
 ⟨.call true (.k (.fn 19 [] [])) [.r 1,.r 0],some (2,true),[]⟩,
 p (.pick (.r 3) (.r 0) (.k (.bool false))),
 p (.mov (.r 0)),
 ⟨.fad 0 (.v 10),some (0,true),[]⟩,
 ⟨.load (none) (.r 0),some (1,true),[]⟩,
 ⟨.fad 0 (.v 4),some (2,true),[]⟩,
 ⟨.load (none) (.r 0),some (3,true),[]⟩,
 ⟨.bin .geq (.r 2) (.r 0),some (4,true),[]⟩,
 p (.pick (.r 5) (.r 0) (.k (.bool false))),
 p (.mov (.r 0))] [(8,.r 0)])
 .ret)))))))))
def c7:C :=
  (.seq
 (.reg false [p (.mov (.k (.bool false)))] [(0,.v 0)])
 (.seq
 (.reg false [p (.mov (.v 0)),
 p (.call true (.k (.fn 21 [] [])) [.r 0]),
 p (.mov (.r 0))] [(0,.r 0)])
 (.seq
 (.reg false [p (.mov (.v 0)),
 p (.call true (.k (.fn 23 [] [])) [.r 0]),
 p (.mov (.r 0)),
 p (.ext (.r 0) 0),
 p (.ext (.r 1) 1),
 p (.alloc 4 (.agg [.int .i64 0,.int .i64 0,.fsl .nil 2 [],.fsl .nil 5 []])),
 p (.store (some 4) (.r 0) (.r 2)),
 p (.mov (.r 2))] [(0,.v 0),(3,.r 2),(4,.r 0)])
 (.seq
 (.reg false [p (.alloc 4 (.agg [.int .i64 0,.int .i64 0,.fsl .nil 2 [],.fsl .nil 5 []]))] [(0,.v 0),(3,.v 3),(4,.v 4),(5,.r 0)])
 (.seq
 (.reg false [p (.mov (.k (.fsl .nil 6 [])))] [(0,.v 0),(3,.v 3),(4,.v 4),(5,.v 5),(6,.r 0)])
 (.seq
 (.seq
 (.reg false [p (.mov (.v 0)),
 p (.len false (.r 0)),
 p (.mov (.k (.int .i64 0)))] [(3,.v 3),(4,.v 4),(5,.v 5),(6,.v 6),(18,.r 2),(19,.r 1),(20,.r 0)])
 (.block 0
 (.loop
 (.seq
 (.reg false [p (.bin .lss (.v 20) (.v 19))] [(3,.v 3),(4,.v 4),(5,.v 5),(6,.v 6),(18,.v 18),(19,.v 19),(20,.v 20),(21,.r 0)])
 (.seq
 (.cond (.v 21)
 .skip
 (.exit 0))
 (.seq
 (.block 1
 (.seq
 (.reg false [p (.iad 8 (.v 18) (.v 20)),
 p (.load (some 8) (.r 0)),
 p (.alloc 8 (.agg [.int .i64 0,.str [],.str [],.int .i64 0,.int .i64 0,.str [],.str [],.fsl .nil 4 []])),
 p (.store (some 8) (.r 0) (.r 1))] [(3,.v 3),(4,.v 4),(5,.v 5),(6,.v 6),(8,.r 1),(18,.v 18),(19,.v 19),(20,.v 20)])
 (.seq
 (.reg false [p (.load (some 4) (.v 5)),
 p (.load (some 8) (.v 8)),
 p (.call true (.k (.fn 15 [] [])) [.r 1,.r 0]),
 p (.mov (.r 0)),
 p (.ext (.r 0) 0),
 p (.ext (.r 1) 1),
 p (.alloc 4 (.agg [.int .i64 0,.int .i64 0,.fsl .nil 2 [],.fsl .nil 5 []])),
 p (.alloc 6 (.agg [.int .i64 0,.str [],.int .i64 0,.int .i64 0,.int .i64 0,.fsl .nil 5 []])),
 p (.store (some 4) (.r 1) (.r 3)),
 p (.store (some 6) (.r 1) (.r 3))] [(3,.v 3),(4,.v 4),(5,.v 5),(6,.v 6),(9,.r 3),(10,.r 2),(18,.v 18),(19,.v 19),(20,.v 20)])
 (.reg true [p (.load (some 4) (.v 9)),
 p (.mov (.v 6)),
 p (.load (some 6) (.v 10)),
 p (.bsl 6 [.r 0]),
 ⟨.app 6 72 (.r 2) (.r 0),none,[3]⟩,
 p (.store (some 4) (.v 5) (.r 4)),
 p (.mov (.r 1))] [(3,.v 3),(4,.v 4),(5,.v 5),(6,.r 0),(18,.v 18),(19,.v 19),(20,.v 20)]))))
 (.reg false [p (.bin .add (.v 20) (.k (.int .i64 1))),
 p (.mov (.r 0))] [(3,.v 3),(4,.v 4),(5,.v 5),(6,.v 6),(18,.v 18),(19,.v 19),(20,.r 0)])))))))
 (.frz
 (.seq
 (.reg false [p (.call true (.k (.fn 16 [] [])) []),
 p (.mov (.r 0)),
 ⟨.load (some 4) (.v 3),some (0,true),[]⟩,
 ⟨.load (some 4) (.v 5),some (1,true),[]⟩,
 ⟨.call true (.k (.fn 19 [] [])) [.r 1,.r 0],some (2,true),[]⟩,
 p (.pick (.r 3) (.r 0) (.k (.bool false))),
 p (.mov (.r 0)),
 ⟨.mov (.v 4),some (0,true),[]⟩,
 ⟨.mov (.v 6),some (1,true),[]⟩,
 ⟨.call true (.k (.fn 24 [] [])) [.r 1,.r 0],some (2,true),[]⟩,
 p (.pick (.r 3) (.r 0) (.k (.bool false))),
 p (.mov (.r 0))] [(2,.r 0)])
 .ret))))))))
structure WdA (w:Wd):Prop where
  dags:w.dags.length≤4611686018427387904
  runs:w.runs.length≤4611686018427387904
  dag:∀ d∈w.dags,okDagL d
  run:∀ r∈w.runs,RnOk r
def zW:Wd:=⟨0,0,[],[]⟩
def bigD (d:Dag):Bool:=decide (20 < d.tasks.length)
def bigR (r:Rn):Bool:=decide (20 < r.states.length) || decide (20 < r.dag.tasks.length)
def cutW (w:Wd):Wd:={ w with dags:=w.dags.take 20,runs:=w.runs.take 70 }
def fewS (w:Wd):Wd:=if (cutW w).dags.any bigD=true then zW else if (cutW w).runs.any bigR=true then zW else cutW w
theorem zW_M:WdM zW:=⟨⟨by simp [zW],by simp [zW],by simp [zW],by simp [zW]⟩,by simp [zW]⟩
theorem few_M {w:Wd} (h:WdA w):WdM (fewS w):=by
  unfold fewS
  split
  · exact zW_M
  split
  · exact zW_M
  · rename_i h1 h2
    simp only [Bool.not_eq_true,List.any_eq_false] at h1 h2
    refine ⟨⟨by simp [cutW]; omega,by simp [cutW]; omega,fun d hd => h.dag d (List.mem_of_mem_take hd),fun r hr => h.run r (List.mem_of_mem_take hr)⟩,fun r hr => ?_⟩
    have h3:=h2 r hr
    have h4:=h.run r (List.mem_of_mem_take hr)
    simp [bigR] at h3
    exact ⟨⟨h4.tasks,h4.needs⟩,by omega⟩
theorem law_few (w:Wd) (h:WdA w):PCall Tryz.prog 13 [wdV w] (wdV (fewS w)):=by
  refine en13 (by simp) (by simp [closedL,wdV_closed]) ?_
  have h1:=h.dags
  have h2:=h.runs
  have e1:(cutW w).dags=w.dags.take 20:=rfl
  have e2:(cutW w).runs=w.runs.take 70:=rfl
  have d1:List.take (min (w.dags.length:Int) 20).toNat (mv dagV w.dags)=mv dagV (cutW w).dags:=by
    rw [mv_take,e1]; congr 1
    by_cases c:w.dags.length≤20
    · rw [List.take_of_length_le (by omega),List.take_of_length_le c]
    · rw [show (min (w.dags.length:Int) 20).toNat=20 by omega]
  have r1:List.take (min (w.runs.length:Int) 70).toNat (mv rnV w.runs)=mv rnV (cutW w).runs:=by
    rw [mv_take,e2]; congr 1
    by_cases c:w.runs.length≤70
    · rw [List.take_of_length_le (by omega),List.take_of_length_le c]
    · rw [show (min (w.runs.length:Int) 70).toNat=70 by omega]
  have sl:∀ a b,slSt .loose a b none=.loose:=fun _ _ => rfl
  have hD:(cutW w).dags.length≤20:=by rw [e1]; simp; omega
  have hR:(cutW w).runs.length≤70:=by rw [e2]; simp; omega
  have hfew:fewS w=if (cutW w).dags.any bigD=true then zW else if (cutW w).runs.any bigR=true then zW else cutW w:=rfl
  have hcut:wdV (cutW w)=V.agg [V.int .i64 w.now,V.int .i64 w.token,V.fsl .loose 2 (mv dagV (cutW w).dags),V.fsl .loose 5 (mv rnV (cutW w).runs)]:=rfl
  generalize (cutW w).dags=D at d1 hD hfew hcut
  generalize (cutW w).runs=U at r1 hR hfew hcut
  simp (maxSteps:=1000000) (disch:=omega) only [rg,gD,simprocAttr,c13,wdV,mv_len,d1,r1,sl]
  refine ⟨⟨by omega,by omega,by omega⟩,⟨by omega,by omega,by omega⟩,by simp [compat,disj,nthL], ?_⟩
  refine x_it D.length (fun k σ H => 2≤H.n∧H.m 0=some (.arr 4 [wdV (cutW w)])∧H.m 1=some (.arr 4 [V.agg [V.int .i64 0,V.int .i64 0,V.fsl .nil 2 [],V.fsl .nil 5 []]])∧(D.any bigD=(D.drop k).any bigD) ∧
    σ=[(1,.ptr 0 0 0),(2,.ptr 1 0 0),(24,.fsl .loose 2 (mv dagV D)),(25,.int .i64 (D.length:Int)),(26,.int .i64 (k:Int))]) ⟨Nat.le_refl 2,by rw [hcut]; exact (by simp (disch:=omega) only [upd_eq,upd_ne,wo_0,wo_1,wo_2]),(by simp (disch:=omega) only [upd_eq,upd_ne,wo_0,wo_1,wo_2]),rfl,by rfl⟩ ?_
  rintro T k σ ⟨n,m⟩ hkk ⟨hn,e0,f1,hs,rfl⟩ hN hX hR'
  simp only at hn e0 f1
  rw [hcut] at e0
  by_cases hk:k < D.length
  · rw [any_drop hk] at hs
    by_cases c:20 < D[k].tasks.length
    · have hb:bigD D[k]=true:=by simp [bigD,c]
      rw [hb,Bool.true_or] at hs
      have hres:fewS w=zW:=by rw [hfew,if_pos hs]
      simp (maxSteps:=1000000) (disch:=omega) only [rg,gD,simprocAttr,show (k:Int) < D.length by omega,mv_get hk,getC_dags,Int.toNat_natCast,dagV,tasksV,mv_len,show (20:Int) < D[k].tasks.length by omega,f1]
      refine hR' _ _ ?_
      refine fin_x (by simp (disch:=omega) only [r13,resE,find,loadO,upd_eq,upd_ne,reduceIte,Nat.reduceEqDiff]; rfl) ?_ ?_<;>simp [pack,lo,loL,V.closed,closedL,mv_closed,wdV,zW,mv_nil,mv_lo dagV_lo,mv_lo rnV_lo,mv_closed dagV_closed,rnV_closed,hres]
    · have hb:bigD D[k]=false:=by simp [bigD]; omega
      rw [hb,Bool.false_or] at hs
      simp (maxSteps:=1000000) (disch:=omega) only [rg,gD,simprocAttr,show (k:Int) < D.length by omega,mv_get hk,getC_dags,Int.toNat_natCast,dagV,tasksV,mv_len,show ¬ (20:Int) < D[k].tasks.length by omega,f1]
      exact hN _ _ hk ⟨by simp only []; omega,(by simp (disch:=omega) only [upd_eq,upd_ne,wo_0,wo_1,wo_2,e0,hcut]),(by simp (disch:=omega) only [upd_eq,upd_ne,wo_0,wo_1,wo_2,f1]),hs,rfl⟩
  · obtain rfl:k=D.length:=by omega
    rw [List.drop_length] at hs
    have hs':¬ D.any bigD=true:=by rw [hs]; simp
    rw [if_neg hs'] at hfew
    simp (maxSteps:=1000000) (disch:=omega) only [rg,gD,simprocAttr,Int.lt_irrefl]
    refine hX _ _ _ ?_
    simp (maxSteps:=1000000) (disch:=omega) only [rg,gD,simprocAttr]
    refine x_frz0 ?_
    simp (maxSteps:=1000000) (disch:=omega) only [rg,gD,simprocAttr,e0,mv_len]
    refine x_it U.length (fun k σ H => 2≤H.n∧H.m 0=some (.arr 4 [wdV (cutW w)])∧H.m 1=some (.arr 4 [V.agg [V.int .i64 0,V.int .i64 0,V.fsl .nil 2 [],V.fsl .nil 5 []]])∧(U.any bigR=(U.drop k).any bigR) ∧
      σ=[(1,.ptr 0 0 0),(2,.ptr 1 0 0),(37,.fsl .loose 5 (mv rnV U)),(38,.int .i64 (U.length:Int)),(39,.int .i64 (k:Int))]) ⟨hn,by rw [hcut]; exact e0,f1,rfl,by rfl⟩ ?_
    clear hN hX hR' hs T
    rintro T k σ ⟨n,m⟩ hkk ⟨hn,e0,f1,hs,rfl⟩ hN hX hR'
    simp only at hn e0 f1
    rw [hcut] at e0
    by_cases hk:k < U.length
    · rw [any_drop hk] at hs
      by_cases c1:20 < U[k].states.length
      · have hb:bigR U[k]=true:=by simp [bigR,c1]
        rw [hb,Bool.true_or] at hs
        have hres:fewS w=zW:=by rw [hfew,if_pos hs]
        simp (maxSteps:=1000000) (disch:=omega) only [rg,gD,simprocAttr,show (k:Int) < U.length by omega,mv_get hk,getC_runs,Int.toNat_natCast,rnV,sttsV,tasksV,mv_len,show (20:Int) < U[k].states.length by omega,f1]
        refine hR' _ _ ?_
        refine fin_x (by simp (disch:=omega) only [r13,resE,find,loadO,upd_eq,upd_ne,reduceIte,Nat.reduceEqDiff]; rfl) ?_ ?_<;>simp [pack,lo,loL,V.closed,closedL,mv_closed,wdV,zW,mv_nil,mv_lo dagV_lo,mv_lo rnV_lo,mv_closed dagV_closed,rnV_closed,hres]
      by_cases c2:20 < U[k].dag.tasks.length
      · have hb:bigR U[k]=true:=by simp [bigR,c2]
        rw [hb,Bool.true_or] at hs
        have hres:fewS w=zW:=by rw [hfew,if_pos hs]
        simp (maxSteps:=1000000) (disch:=omega) only [rg,gD,simprocAttr,show (k:Int) < U.length by omega,mv_get hk,getC_runs,Int.toNat_natCast,rnV,sttsV,tasksV,mv_len,show ¬ (20:Int) < U[k].states.length by omega,show (20:Int) < U[k].dag.tasks.length by omega,f1]
        refine hR' _ _ ?_
        refine fin_x (by simp (disch:=omega) only [r13,resE,find,loadO,upd_eq,upd_ne,reduceIte,Nat.reduceEqDiff]; rfl) ?_ ?_<;>simp [pack,lo,loL,V.closed,closedL,mv_closed,wdV,zW,mv_nil,mv_lo dagV_lo,mv_lo rnV_lo,mv_closed dagV_closed,rnV_closed,hres]
      have hb:bigR U[k]=false:=by simp [bigR]; omega
      rw [hb,Bool.false_or] at hs
      simp (maxSteps:=1000000) (disch:=omega) only [rg,gD,simprocAttr,show (k:Int) < U.length by omega,mv_get hk,getC_runs,Int.toNat_natCast,rnV,sttsV,tasksV,mv_len,show ¬ (20:Int) < U[k].states.length by omega,show ¬ (20:Int) < U[k].dag.tasks.length by omega,f1]
      exact hN _ _ hk ⟨by simp only []; omega,(by simp (disch:=omega) only [upd_eq,upd_ne,wo_0,wo_1,wo_2,e0,hcut]),(by simp (disch:=omega) only [upd_eq,upd_ne,wo_0,wo_1,wo_2,f1]),hs,rfl⟩
    · obtain rfl:k=U.length:=by omega
      rw [List.drop_length] at hs
      have hs':¬ U.any bigR=true:=by rw [hs]; simp
      rw [if_neg hs'] at hfew
      simp (maxSteps:=1000000) (disch:=omega) only [rg,gD,simprocAttr,Int.lt_irrefl]
      refine hX _ _ _ ?_
      simp (maxSteps:=1000000) (disch:=omega) only [rg,gD,simprocAttr]
      refine x_frz0 ?_
      simp (maxSteps:=1000000) (disch:=omega) only [rg,gD,simprocAttr,e0,f1]
      have hfw:V.agg [V.int .i64 (fewS w).now,V.int .i64 (fewS w).token,V.fsl .loose 2 (mv dagV (fewS w).dags),V.fsl .loose 5 (mv rnV (fewS w).runs)]=wdV (fewS w):=rfl
      rw [hfw,hfew,hcut]
      refine fin_x (by simp (disch:=omega) only [r13,resE,find,loadO,upd_eq,upd_ne,reduceIte,Nat.reduceEqDiff]; rfl) ?_ ?_<;>simp [pack,lo,loL,V.closed,closedL,mv_closed,wdV,zW,mv_nil,mv_lo dagV_lo,mv_lo rnV_lo,mv_closed dagV_closed,rnV_closed]
section
theorem zW_WR:WR zW:=by
  refine ⟨by simp [zW,MT],by simp [zW,MT],by simp [zW],by simp [zW], ?_, ?_,by simp [zW],by simp [zW], ?_⟩
  · intro i h; simp [zW,dagsN] at h
  · intro i h; simp [zW,runsN] at h
  · simp [zW,toksR,Tk]
def c3S:Cmd:=⟨3,[],[],0,0,[],⟨[],[]⟩⟩
theorem alive_do:doS zW c3S=(zW,whyA 192):=by
  unfold doS; rw [if_pos zW_WR]
  simp [kindW,c3S,pollS,zW,MT,fndS]
abbrev z4V:V:=V.agg [V.int .i64 0,V.int .i64 0,V.fsl .nil 2 [],V.fsl .nil 5 []]
abbrev z6V:V:=V.agg [V.int .i64 0,V.str [],V.int .i64 0,V.int .i64 0,V.int .i64 0,V.fsl .nil 5 []]
theorem setC_z4 (b:Wd):setC (some 4) 0 z4V (wdV b)=some (wdV b):=rfl
theorem setC_z6 (b:Ans):setC (some 6) 0 z6V (ansV b)=some (ansV b):=rfl
theorem getC_ans (b:Ans):getC (some 6) 0 (ansV b)=some (ansV b):=rfl
theorem getC_cmd (b:Cmd):getC (some 8) 0 (cmdV b)=some (cmdV b):=rfl
open Classical in
theorem law_alive20:PCall Tryz.prog 16 [] (.bool true):=by
  refine en16 (by simp) (by simp [closedL]) ?_
  have h1:PCall Tryz.prog 14 [z4V,V.agg [.int .i64 3,.str [],.str [],.int .i64 0,.int .i64 0,.str [],.str [],.fsl .nil 4 []]] (waV (zW,whyA 192)):=by
    have:=world_do zW c3S zW_M.ok (by simp [c3S,okDagL])
    rw [alive_do] at this
    exact this.of_eq (by simp [wdV,cmdV,c3S,zW,loL,lo,mv_nil,tasksV])
  have h2:PCall Tryz.prog 17 [z4V] (.bool true):=by
    have:=world_right zW zW_M.ok
    rw [decide_eq_true zW_WR] at this
    exact this.of_eq (by simp [wdV,zW,loL,lo,mv_nil])
  simp (maxSteps:=1000000) (disch:=omega) only [rg,gD,simprocAttr,c16]
  refine ⟨_,h1, ?_⟩
  simp (maxSteps:=1000000) (disch:=omega) only [rg,gD,simprocAttr,waV,setC_z4,setC_z6,getC_why,whyA]
  refine ⟨_,h2, ?_⟩
  simp (maxSteps:=1000000) (disch:=omega) only [rg,gD,simprocAttr]
  (refine fin_x rfl ?_ ?_<;>simp [pack,lo,loL,V.closed,closedL,mv_closed])
open Classical in
set_option maxHeartbeats 1000000 in
theorem law_does (w:Wd) (c:Cmd) (h:WdA w) (hd:okDagL c.dag):PCall Tryz.prog 3 [wdV w,cmdV c] (.bool true):=by
  refine en3 (by simp) (by simp [closedL,wdV_closed,cmdV_closed]) ?_
  have hf:=law_few w h
  have hm:=few_M h
  generalize fewS w=x at hf hm
  have h1:=world_do x c hm.ok hd
  have h2:=ref_do x c hm.ok hd
  have h3:=world_right x hm.ok
  have h4:=ref_wright x hm.ok
  have hM:=do_M x c hm hd
  have hA:=do_A x c
  have h5:=like_wd (doS x c).1 (doS x c).1 hM.L hM.L
  have h6:=like_ans (doS x c).2 (doS x c).2 hA hA
  rw [decide_eq_true rfl] at h5 h6
  generalize doS x c=z at h1 h2 h5 h6
  unfold waV at h1 h2
  simp (maxSteps:=1000000) (disch:=omega) only [rg,gD,simprocAttr,c3,getC_wd,getC_cmd,setC_wd,setC_z4,setC_z6]
  refine ⟨⟨rfl,rfl⟩,⟨rfl,rfl⟩,_,hf, ?_⟩
  simp (maxSteps:=1000000) (disch:=omega) only [rg,gD,simprocAttr,getC_wd,getC_cmd,setC_wd,setC_z4,setC_z6]
  refine ⟨_,h1, ?_⟩
  simp (maxSteps:=1000000) (disch:=omega) only [rg,gD,simprocAttr,getC_wd,getC_cmd,setC_wd,setC_z4,setC_z6]
  refine ⟨_,h2, ?_⟩
  simp (maxSteps:=1000000) (disch:=omega) only [rg,gD,simprocAttr,getC_wd,getC_cmd,setC_wd,setC_z4,setC_z6]
  refine ⟨_,law_alive20, ?_⟩
  simp (maxSteps:=1000000) (disch:=omega) only [rg,gD,simprocAttr,getC_wd,getC_cmd,setC_wd,setC_z4,setC_z6]
  refine ⟨_,h3, ?_⟩
  simp (maxSteps:=1000000) (disch:=omega) only [rg,gD,simprocAttr,getC_wd,getC_cmd,setC_wd,setC_z4,setC_z6]
  refine ⟨_,h4, ?_⟩
  simp (maxSteps:=1000000) (disch:=omega) only [rg,gD,simprocAttr,getC_wd,getC_cmd,setC_wd,setC_z4,setC_z6]
  refine ⟨_,h5, ?_⟩
  simp (maxSteps:=1000000) (disch:=omega) only [rg,gD,simprocAttr,getC_ans]
  refine ⟨_,h6, ?_⟩
  simp (maxSteps:=1000000) (disch:=omega) only [rg,gD,simprocAttr]
  (refine fin_x rfl ?_ ?_<;>simp [pack,lo,loL,V.closed,closedL,mv_closed])
end
theorem reach_le:reachBytes≤4611686018427387904:=by decide
def yDag:Ty:=.st (fDag .nil)
def yDags:Ty:=.l 2 40 yDag
def yRn:Ty:=.st (.cons .s (.cons yDag (.cons yI (.cons ySts .nil))))
def yRns:Ty:=.l 5 88 yRn
def tWd:Ty:=.st (.cons yI (.cons yI (.cons yDags (.cons yRns .nil))))
def tCmd:Ty:=.st (.cons yI (.cons .s (.cons .s (.cons yI (.cons yI (.cons .s (.cons yDag .nil)))))))
theorem dag_ok0 {d:Dag} (h:okDag d):okDagL d:=by
  have hr:=reach_le
  obtain ⟨g1,g2,g3⟩:=h
  exact ⟨by omega,fun t ht => by obtain ⟨_,z2,_⟩:=g3 t ht; omega⟩
theorem yDag_of {us:List V} (h:TyV yDag us):∃ d,el yDag us=dagV d∧okDag d:=by
  obtain ⟨d,ws,rfl,q,hw⟩:=fDag_of (r:=.nil) h
  obtain rfl:ws=[]:=hw
  exact ⟨d,rfl,q⟩
theorem yRn_of {us:List V} (h:TyV yRn us):∃ r,el yRn us=rnV r∧RnOk r:=by
  obtain ⟨u1,w1,rfl,h1,u2,w2,rfl,h2,u3,w3,rfl,h3,u4,w4,rfl,h4,rfl⟩:=h
  obtain ⟨k,rfl,qk⟩:=yS_of h1
  obtain ⟨d,ws,rfl,qd,hw⟩:=fDag_of (r:=.nil) h2
  obtain rfl:ws=[]:=hw
  obtain ⟨i,rfl,qi⟩:=yI_of h3
  obtain ⟨l,rfl,q1,q2⟩:=ySts_of h4
  have hr:=reach_le
  have hd:=dag_ok0 qd
  refine ⟨⟨k,d,i,l⟩,rfl,⟨Nat.le_trans qk hr,hd.2,hd.1,by simp only; omega,fun s hs => ?_⟩⟩
  obtain ⟨z1,z2,z3,z4,z5⟩:=q2 s hs
  exact Nat.le_trans z5 hr
theorem wd_of {vs:List V} (h:TyV tWd vs):∃ w:Wd,vs=[.int .i64 w.now,.int .i64 w.token,.fsl .loose 2 (mv dagV w.dags),.fsl .loose 5 (mv rnV w.runs)]∧WdA w:=by
  obtain ⟨u1,w1,rfl,h1,u2,w2,rfl,h2,u3,w3,rfl,h3,u4,w4,rfl,h4,rfl⟩:=h
  obtain ⟨a,rfl,qa⟩:=yI_of h1
  obtain ⟨b,rfl,qb⟩:=yI_of h2
  obtain ⟨ds,rfl,q1,q2⟩:=list_of (e:=yDag) (f:=dagV) (q:=okDag) (fun us hu => yDag_of hu) h3
  obtain ⟨rs,rfl,q3,q4⟩:=list_of (e:=yRn) (f:=rnV) (q:=RnOk) (fun us hu => yRn_of hu) h4
  have hr:=reach_le
  exact ⟨⟨a,b,ds,rs⟩,rfl,by simp only; omega,by simp only; omega,fun d hd => dag_ok0 (q2 d hd),q4⟩
theorem cmd_of {vs:List V} (h:TyV tCmd vs):∃ c:Cmd,vs=[.int .i64 c.kind,.str c.key,.str c.name,.int .i64 c.token,.int .i64 c.time,.str c.text,.str c.dag.name,tasksV c.dag.tasks]∧okDagL c.dag:=by
  obtain ⟨u1,w1,rfl,h1,u2,w2,rfl,h2,u3,w3,rfl,h3,u4,w4,rfl,h4,u5,w5,rfl,h5,u6,w6,rfl,h6,u7,w7,rfl,h7,rfl⟩:=h
  obtain ⟨a,rfl,qa⟩:=yI_of h1
  obtain ⟨b,rfl,qb⟩:=yS_of h2
  obtain ⟨c,rfl,qc⟩:=yS_of h3
  obtain ⟨d,rfl,qd⟩:=yI_of h4
  obtain ⟨e,rfl,qe⟩:=yI_of h5
  obtain ⟨f,rfl,qf⟩:=yS_of h6
  obtain ⟨g,ws,rfl,q,hw⟩:=fDag_of (r:=.nil) h7
  obtain rfl:ws=[]:=hw
  exact ⟨⟨a,b,c,d,e,f,g⟩,rfl,dag_ok0 q⟩
theorem row_does (w:Wd) (c:Cmd) (h:WdA w) (hd:okDagL c.dag):PCall Tryz.prog 3 [.agg [.int .i64 w.now,.int .i64 w.token,.fsl .loose 2 (mv dagV w.dags),.fsl .loose 5 (mv rnV w.runs)],.agg [.int .i64 c.kind,.str c.key,.str c.name,.int .i64 c.token,.int .i64 c.time,.str c.text,.str c.dag.name,tasksV c.dag.tasks]] (.bool true) :=
  law_does w c h hd
end Go.Proofs.YtkdeckmglbnfbaaGreat.Ev
