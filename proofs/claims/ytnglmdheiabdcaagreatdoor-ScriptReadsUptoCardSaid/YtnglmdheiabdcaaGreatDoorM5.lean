/-
  Part 5 of what the proof of the statement ScriptReadsUpto leans on: the evaluator, the functions in compact form, and what they answer.
-/
import Derived.Test.YtnglmdheiabdcaaGreatDoorM4
import Derived.Shelf.Strings.Builder1
import Derived.WalkKit
import Derived.LoopTactic
set_option linter.unusedSimpArgs false
set_option linter.unusedVariables false
set_option maxRecDepth 10000
namespace Go.Proofs.YtnglmdheiabdcaaGreatDoor.Ev
open Go
theorem cut_drop (c:UInt8):∀ (s:Str) (i:Nat),(∀ b∈s.take i,b≠c)→cutC c s=((s.take i)++(cutC c (s.drop i)).1,(cutC c (s.drop i)).2.1,(cutC c (s.drop i)).2.2)
  | s,0,_ => by simp
  | [],i+1,_ => by simp [cutC]
  | b::s,i+1,h => by
    have ih:=cut_drop c s i (fun x hx => h x (by simp [hx]))
    have hb:¬ b=c:=h b (by simp)
    simp only [cutC,if_neg hb,List.take_succ_cons,List.drop_succ_cons,List.cons_append]
    rw [ih]
theorem r_cut (s:Str) (c:UInt8) (hl:s.length≤4000000000):PCall Tryz.prog 16 [.str s,.int .u8 c.toNat] (.tup [.str (cutC c s).1,.str (cutC c s).2.1,.bool (cutC c s).2.2]):=by
  refine en16 (by simp) (by simp [closedL,V.closed]) ?_
  simp (maxSteps:=1000000) (disch:=omega) only [rg,gD,simprocAttr,c16]
  refine x_it s.length (fun i σ H => (∀ b∈s.take i,b≠c)∧σ=[(0,.str s),(1,.int .u8 c.toNat),(7,.int .i64 i)]) ⟨by simp,rfl⟩ ?_
  rintro T i σ ⟨n,m⟩ hi ⟨ha,rfl⟩ hN hX hR
  simp (maxSteps:=1000000) (disch:=omega) only [rg,gD,simprocAttr]
  refine ⟨fun h => ?_,fun h => ?_⟩
  · have i1:i < s.length:=by omega
    have hget:s[i]?=some s[i]:=by simp [i1]
    have hdr:s.drop i=s[i]::s.drop (i+1):=by rw [List.drop_eq_getElem_cons i1]
    by_cases c1:((s[i].toNat:Nat):Int)=(c.toNat:Int)
    · have e:s[i]=c:=UInt8.toNat_inj.1 (by omega)
      have hcut:=cut_drop c s i ha
      rw [hdr,e] at hcut
      simp only [cutC,if_true,List.append_nil] at hcut
      simp (maxSteps:=1000000) (disch:=omega) only [rg,gD,simprocAttr,hget,c1]
      refine ⟨by omega,⟨by omega,by omega,by omega⟩,hR _ _ ?_⟩
      rw [List.take_length,show ((i:Int)+1).toNat=i+1 by omega]
      simp (maxSteps:=1000000) (disch:=omega) only [rg,gD,simprocAttr]
      (refine fin_x rfl ?_ ?_<;>simp [pack,lo,loL,V.closed,closedL,mv_closed,hcut])
    · have e:s[i]≠c:=fun h => c1 (by rw [h])
      simp (maxSteps:=1000000) (disch:=omega) only [rg,gD,simprocAttr,hget,c1]
      refine hN _ _ i1 ⟨fun b hb => ?_,rfl⟩
      rw [List.take_succ_eq_append_getElem i1] at hb
      rcases List.mem_append.1 hb with hb | hb
      · exact ha b hb
      · simp only [List.mem_singleton] at hb; subst hb; exact e
  · obtain rfl:i=s.length:=by omega
    have hcut:=cut_drop c s s.length ha
    rw [List.drop_length,List.take_length] at hcut
    simp only [cutC,List.append_nil] at hcut
    refine hX _ _ _ ?_
    simp (maxSteps:=1000000) (disch:=omega) only [rg,gD,simprocAttr]
    refine x_frz0 ?_
    simp (maxSteps:=1000000) (disch:=omega) only [rg,gD,simprocAttr]
    (refine fin_x rfl ?_ ?_<;>simp [pack,lo,loL,V.closed,closedL,mv_closed,hcut])
theorem Gro.snap {lo n:Nat} {m:Hm} {sz:Nat} {v:V} {l:List V} (h:Gro lo n m sz v l) (hc:closedL l=true):∃ st,∀ k,Ev.snap (k+1) m v=some (.fsl st sz l):=by
  rcases h with ⟨st,h0,rfl,rfl⟩ | ⟨id,h1,h1',rfl,h2⟩
  · exact ⟨st,fun k => snap_cl (n:=k+1) (v:=.fsl st sz []) rfl⟩
  · exact ⟨.loose,fun k => snap_sl (n:=k) (id:=id) (sz:=sz) (l:=l) h2 hc rfl⟩
theorem r_split (s:Str) (c:UInt8) (hl:s.length≤4000000000):PCall Tryz.prog 17 [.str s,.int .u8 c.toNat] (.fsl .loose 1 (vS (splitC c s))):=by
  refine en17 (by simp) (by simp [closedL,V.closed]) ?_
  simp (maxSteps:=1000000) (disch:=omega) only [rg,gD,simprocAttr,c17]
  refine x_it (s.length+1) (fun i σ H => ∃ rem acc v,Gro 0 H.n H.m 1 v (vS acc)∧rem.length+i≤s.length∧acc.length=i∧acc++splitC c rem=splitC c s∧σ=[(0,.str rem),(1,.int .u8 c.toNat),(5,v)]) ⟨s,[],_,Gro.full,by omega,rfl,rfl,rfl⟩ ?_
  rintro T i σ ⟨n,m⟩ hi ⟨rem,acc,v,hG,hrl,hal,hsp,rfl⟩ hN hX hR
  simp only at hG
  simp (maxSteps:=1000000) (disch:=omega) only [rg,gD,simprocAttr]
  refine ⟨_,r_cut rem c (by omega), ?_⟩
  simp (maxSteps:=1000000) (disch:=omega) only [rg,gD,simprocAttr]
  refine app_gro hG (by simp) (ys:=[.str (cutC c rem).1]) rfl (by simp) (by rw [vS_len']; simp; omega) fun v' fp ds hG' hk1 _ => ?_
  rw [show vS acc++[.str (cutC c rem).1]=vS (acc++[(cutC c rem).1]) from mv_app1] at hG'
  rw [split_cut c rem] at hsp
  have hst:(cutC c rem).2.2=true→(cutC c rem).2.1.length < rem.length:=fun h => (cut_len c rem h).1
  have hno:(cutC c rem).2.2=false→(cutC c rem).1=rem:=fun h => by
    rcases index_c c rem with ⟨h1,h2,h3,h4⟩ | ⟨j,h1,h2,h3,h4,h5⟩
    · exact h3
    · rw [h3] at h; cases h
  generalize (cutC c rem).2.2=ok at hsp hst hno
  cases ok with
  | false =>
    rw [if_neg (by simp),← hno rfl] at hsp
    simp (maxSteps:=1000000) (disch:=omega) only [rg,gD,simprocAttr]
    refine hR _ _ ?_
    simp (maxSteps:=1000000) (disch:=omega) only [rg,gD,simprocAttr]
    obtain ⟨st,hs⟩:=hG'.snap (vS_closed)
    refine fin_y rfl (hs 3) ?_
    simp [lo,vS_lo,hsp]
  | true =>
    have:=hst rfl
    rw [if_pos rfl] at hsp
    simp (maxSteps:=1000000) (disch:=omega) only [rg,gD,simprocAttr]
    refine hN _ _ (by omega) ?_
    exact ⟨(cutC c rem).2.1,acc++[(cutC c rem).1],v',hG',by omega,by simp; omega,by rw [← hsp]; simp,rfl⟩
theorem val_fold:∀ (s:Str) (a:Int),s.all digB=true→0≤a→0≤s.foldl (fun n (b:UInt8) => 10*n+((b.toNat:Int) - 48)) a∧s.foldl (fun n (b:UInt8) => 10*n+((b.toNat:Int) - 48)) a+1≤(a+1)*10 ^ s.length
  | [],a,_,h => by simp; omega
  | c::s,a,h,h0 => by
    rw [List.all_cons,Bool.and_eq_true] at h
    have hc:=h.1
    simp only [digB,decide_eq_true_eq] at hc
    obtain ⟨h1,h2⟩:=val_fold s (10*a+((c.toNat:Int) - 48)) h.2 (by omega)
    refine ⟨h1,Int.le_trans h2 ?_⟩
    rw [List.length_cons,Int.pow_succ,Int.mul_comm (10 ^ s.length) 10,← Int.mul_assoc]
    exact Int.mul_le_mul_of_nonneg_right (by omega) (Int.pow_nonneg (by omega))
theorem val_le (s:Str) (h:s.all digB=true):0≤valS s∧valS s < 10 ^ s.length:=by
  obtain ⟨h1,h2⟩:=val_fold s 0 h (by omega)
  exact ⟨h1,by simp only [valS]; omega⟩
theorem r_number (s:Str) (hl:s.length≤4611686018427387904):PCall Tryz.prog 18 [.str s] (.int .i64 (refN s)):=by
  refine en18 (by simp) (by simp [closedL,V.closed]) ?_
  by_cases h1:(s.length:Int) < 1
  · have e:refN s=-1:=by rw [refN,if_neg (by omega)]
    simp (maxSteps:=1000000) (disch:=omega) only [rg,gD,simprocAttr,c18,h1]
    (refine fin_x rfl ?_ ?_<;>simp [pack,lo,loL,V.closed,closedL,mv_closed,e])
  by_cases h2:(13:Int) < s.length
  · have e:refN s=-1:=by rw [refN,if_neg (by omega)]
    simp (maxSteps:=1000000) (disch:=omega) only [rg,gD,simprocAttr,c18,h1,h2]
    (refine fin_x rfl ?_ ?_<;>simp [pack,lo,loL,V.closed,closedL,mv_closed,e])
  simp (maxSteps:=1000000) (disch:=omega) only [rg,gD,simprocAttr,c18,h1,h2]
  have h13:s.length≤13:=by omega
  refine x_it s.length (fun i σ H => (s.take i).all digB=true∧σ=[(0,.str s),(3,.int .i64 (valS (s.take i))),(4,.int .i64 i)]) ⟨rfl,rfl⟩ ?_
  rintro T i σ ⟨n,m⟩ hi ⟨ha,rfl⟩ hN hX hR
  obtain ⟨v1,v2⟩:=val_le _ ha
  have v3:(10:Int) ^ (s.take i).length≤10 ^ 13:=by
    rw [List.length_take]
    have:(10:Nat) ^ (min i s.length)≤10 ^ 13:=Nat.pow_le_pow_right (by omega) (by omega)
    exact_mod_cast this
  generalize hv:valS (s.take i)=v at v1 v2 hN hX hR
  have v4:v < 10000000000000:=by omega
  simp (maxSteps:=1000000) (disch:=omega) only [rg,gD,simprocAttr]
  refine ⟨fun h => ?_,fun h => ?_⟩
  · have i1:i < s.length:=by omega
    have hget:s[i]?=some s[i]:=by simp [i1]
    have no:digB s[i]=false→refN s=-1:=fun hb => by
      rw [refN,if_neg]
      intro hh
      have:=List.all_eq_true.1 hh.2 s[i] (List.getElem_mem i1)
      rw [hb] at this; cases this
    by_cases c1:((s[i].toNat:Nat):Int) < 48
    · simp (maxSteps:=1000000) (disch:=omega) only [rg,gD,simprocAttr,hget,c1]
      refine hR _ _ ?_
      simp (maxSteps:=1000000) (disch:=omega) only [rg,gD,simprocAttr]
      (refine fin_x rfl ?_ ?_<;>simp [pack,lo,loL,V.closed,closedL,mv_closed,no (by simp only [digB,decide_eq_false_iff_not]; omega)])
    by_cases c2:(57:Int) < ((s[i].toNat:Nat):Int)
    · simp (maxSteps:=1000000) (disch:=omega) only [rg,gD,simprocAttr,hget,c1,c2]
      refine hR _ _ ?_
      simp (maxSteps:=1000000) (disch:=omega) only [rg,gD,simprocAttr]
      (refine fin_x rfl ?_ ?_<;>simp [pack,lo,loL,V.closed,closedL,mv_closed,no (by simp only [digB,decide_eq_false_iff_not]; omega)])
    have w1:IntKind.u8.wrap ((s[i].toNat:Int) - 48)=(s[i].toNat:Int) - 48:=by rw [show ((s[i].toNat:Int) - 48)=((s[i].toNat - 48:Nat):Int) by omega,wrap_u8]; simp [UInt8.toNat_ofNat']; omega
    have w2:IntKind.i64.wrap ((s[i].toNat:Int) - 48)=(s[i].toNat:Int) - 48:=wrap_i64 (by omega) (by omega)
    have w3:IntKind.i64.wrap (10*v+((s[i].toNat:Int) - 48))=10*v+((s[i].toNat:Int) - 48):=wrap_i64 (by omega) (by omega)
    simp (maxSteps:=1000000) (disch:=omega) only [rg,gD,simprocAttr,hget,c1,c2,w1,w2,w3]
    refine hN _ _ i1 ⟨?_, ?_⟩
    · rw [List.take_succ_eq_append_getElem i1,List.all_append,ha]
      simp only [List.all_cons,List.all_nil,Bool.and_true,Bool.true_and,digB,decide_eq_true_eq]; omega
    · rw [List.take_succ_eq_append_getElem i1,val_snoc,hv]; rfl
  · obtain rfl:i=s.length:=by omega
    rw [List.take_length] at ha hv
    refine hX _ _ _ ?_
    simp (maxSteps:=1000000) (disch:=omega) only [rg,gD,simprocAttr]
    refine x_frz0 ?_
    simp (maxSteps:=1000000) (disch:=omega) only [rg,gD,simprocAttr]
    refine ⟨_,p_itoa v (by omega), ?_⟩
    by_cases h3:Lib.itoa v=s
    · have e:refN s=v:=by rw [refN,if_pos ⟨by omega,ha⟩,hv,if_pos h3]
      simp (maxSteps:=1000000) (disch:=omega) only [rg,gD,simprocAttr,h3]
      (refine fin_x rfl ?_ ?_<;>simp [pack,lo,loL,V.closed,closedL,mv_closed,e])
    · have e:refN s=-1:=by rw [refN,if_pos ⟨by omega,ha⟩,hv,if_neg h3]
      simp (maxSteps:=1000000) (disch:=omega) only [rg,gD,simprocAttr,h3]
      (refine fin_x rfl ?_ ?_<;>simp [pack,lo,loL,V.closed,closedL,mv_closed,e])
theorem refN_le (s:Str):refN s≤9223372036854775807:=by
  rcases Classical.em (refN s < 0) with h | h
  · omega
  · unfold refN at h ⊢
    split
    · rename_i hh
      split
      · have:=(val_le s hh.2).2
        have h3:(10:Int) ^ s.length≤10 ^ 13:=by
          have:(10:Nat) ^ s.length≤10 ^ 13:=Nat.pow_le_pow_right (by omega) (by omega)
          exact_mod_cast this
        omega
      · omega
    · omega
theorem refN_ge (s:Str):-1≤refN s:=by
  unfold refN
  split
  · rename_i hh
    split
    · have:=(val_le s hh.2).1; omega
    · omega
  · omega
theorem r_task (w:Str) (hl:w.length≤4000000000):PCall Tryz.prog 38 [.str w] (tkO (taskR w)):=by
  refine en38 (by simp) (by simp [closedL,V.closed]) ?_
  simp (maxSteps:=1000000) (disch:=omega) only [rg,gD,simprocAttr,c38]
  refine ⟨_,r_split w 44 hl, ?_⟩
  have hsl:=splitC_len 44 w
  have hpl:=piece_len 44 w
  rw [taskR]
  generalize splitC 44 w=l at hsl hpl
  by_cases h3:(l.length:Int) < 3
  · have e:mkTask (l.map refN)=none:=mkTask_none (by simp; omega)
    simp (maxSteps:=1000000) (disch:=omega) only [rg,gD,simprocAttr,vS_len',h3]
    refine x_frz0 ?_
    simp (maxSteps:=1000000) (disch:=omega) only [rg,gD,simprocAttr]
    (refine fin_x rfl ?_ ?_<;>simp [pack,lo,loL,V.closed,closedL,mv_closed,e,tkO,taskV,vI,mv])
  match l,h3 with
  | [],h3 => simp at h3
  | [_],h3 => simp at h3
  | [_,_],h3 => simp at h3
  | a::b::c::r,h3 =>
    have e:mkTask ((a::b::c::r).map refN)=some ⟨r.map refN,refN a,refN b,refN c⟩:=rfl
    rw [e]
    have ha:=hpl a (by simp)
    have hb:=hpl b (by simp)
    have hc:=hpl c (by simp)
    have hr:∀ x∈r,x.length≤w.length:=fun x hx => hpl x (by simp [hx])
    have hrl:r.length+3≤4000000001:=by simp at hsl; omega
    have h3':¬ ((r.length+1+1+1:Nat):Int) < 3:=by omega
    simp (maxSteps:=1000000) (disch:=omega) only [rg,gD,simprocAttr,vS_len',h3',vS_cons]
    refine ⟨_,r_number a (by omega), ?_⟩
    simp (maxSteps:=1000000) (disch:=omega) only [rg,gD,simprocAttr,vS_len',vS_cons]
    refine ⟨_,r_number b (by omega), ?_⟩
    simp (maxSteps:=1000000) (disch:=omega) only [rg,gD,simprocAttr,vS_len',vS_cons]
    refine ⟨_,r_number c (by omega), ?_⟩
    simp (maxSteps:=1000000) (disch:=omega) only [rg,gD,simprocAttr,vS_len',vS_cons]
    rw [show List.take r.length (vS r)=vS r by rw [← vS_len' r,List.take_length]]
    generalize slSt St.loose _ _ _=st0
    refine ⟨by simp [compat,disj,nthL],⟨by omega,by omega⟩, ?_⟩
    refine x_it r.length (fun i σ H => ∃ v,2≤H.n∧H.m 0=some (.arr 4 [.agg [.fsl .nil 1 [],.int .i64 0,.int .i64 0,.int .i64 0]])∧H.m 1=some (.arr 4 [.agg [v,.int .i64 (refN a),.int .i64 (refN b),.int .i64 (refN c)]])∧Gro 2 H.n H.m 1 v (vI ((r.take i).map refN))∧σ=[(2,.ptr 0 0 0),(5,.ptr 1 0 0),(28,.fsl st0 1 (vS r)),(29,.int .i64 r.length),(30,.int .i64 i)]) ⟨_,by simp,(by simp (disch:=omega) only [upd_eq,upd_ne,wo_0,wo_1,wo_2]),(by simp (disch:=omega) only [upd_eq,upd_ne,wo_0,wo_1,wo_2]),Gro.nil,by rw [vS_len']; rfl⟩ ?_
    rintro T i σ ⟨n,m⟩ hi ⟨v,hn2,e0,e1,hG,rfl⟩ hN hX hR
    simp only at hn2 e0 e1 hG
    simp (maxSteps:=1000000) (disch:=omega) only [rg,gD,simprocAttr]
    refine ⟨fun hlt => ?_,fun hlt => ?_⟩
    · have i1:i < r.length:=by omega
      have hc0:=hG.cell
      simp (maxSteps:=1000000) (disch:=omega) only [rg,gD,simprocAttr,vS_get,e1,hc0]
      refine ⟨_,r_number _ (Nat.le_trans (hr _ (List.getElem_mem i1)) (by omega)), ?_⟩
      simp (maxSteps:=1000000) (disch:=omega) only [rg,gD,simprocAttr]
      refine app_gro (hG.keep (Nat.le_refl _) (fun id h1 h2 => by simp (disch:=omega) only [upd_ne])) (by show 2≤n; omega) (ys:=[.int .i64 (refN r[i])]) rfl (by simp) (by rw [vI_len,List.length_map,List.length_take]; simp; omega) fun v' fp ds hG' hk1 _ => ?_
      rw [show vI ((r.take i).map refN)++[.int .i64 (refN r[i])]=vI ((r.take (i+1)).map refN) by rw [List.take_succ_eq_append_getElem i1,List.map_append]; exact mv_app1] at hG'
      have k0:=hk1 0 (by omega)
      have k1:=hk1 1 (by omega)
      simp only at k0 k1
      rw [e0] at k0
      rw [e1] at k1
      have hc':=hG'.cell
      simp only at hG'
      simp (maxSteps:=1000000) (disch:=omega) only [rg,gD,simprocAttr,k1,hc']
      refine hN _ _ i1 ?_
      exact ⟨v',by show 2≤n+1; omega,(by simp (disch:=omega) only [upd_eq,upd_ne,wo_0,wo_1,wo_2,k0]),(by simp (disch:=omega) only [upd_eq,upd_ne,wo_0,wo_1,wo_2]),by exact hG'.keep (Nat.le_refl _) (fun id h1 h2 => by simp (disch:=omega) only [upd_ne]),rfl⟩
    · obtain rfl:i=r.length:=by omega
      rw [List.take_length] at hG
      refine hX _ _ _ ?_
      simp (maxSteps:=1000000) (disch:=omega) only [rg,gD,simprocAttr]
      obtain ⟨fz,st,f1,f2,f3⟩:=hG.frz vI_closed
      have d0:=frl_cl (fz:=fz) (ids:=[]) e0 (by simp [closedL,V.closed]) (fun h => by have:=f1 _ h; omega) (by simp)
      have d1:=frl_get (fz:=fz) (ids:=[]) e1 (fun h => by have:=f1 _ h; omega) (by simp)
      have k1:frzV fz m (.agg [v,.int .i64 (refN a),.int .i64 (refN b),.int .i64 (refN c)])=.agg [.fsl st 1 (vI (r.map refN)),.int .i64 (refN a),.int .i64 (refN b),.int .i64 (refN c)]:=frzV_mid (pre:=[]) (post:=[.int .i64 (refN a),.int .i64 (refN b),.int .i64 (refN c)]) f2 rfl rfl
      rw [List.map_cons,List.map_nil,k1] at d1
      refine x_frzL fz [] ?_
      simp only at d0 d1 ⊢
      generalize loH [] (frzH fz m)=m' at d0 d1
      simp (maxSteps:=1000000) (disch:=omega) only [rg,gD,simprocAttr,frz_p,d0,d1]
      refine x_frz0 ?_
      simp (maxSteps:=1000000) (disch:=omega) only [rg,gD,simprocAttr]
      (refine fin_x rfl ?_ ?_<;>simp [pack,lo,loL,V.closed,closedL,mv_closed,tkO,taskV,vI_lo,vI_closed])
section
theorem x_cutE {P:Program} {a b:C} {σ:Sg} {H:Hp} {Q:QA} (h:evX P (.seq a b) σ H Q):evX P (.cut a b) σ H Q:=⟨fun σ' H' => evX P b σ' H' Q,h,fun _ _ h => h⟩
def zS:V:=.agg [.int .i64 0,.str [],.str [],.int .i64 0,.int .i64 0,.str [],.str [],.fsl .nil 4 [],.bool false,.bool false,.fsl .nil 1 []]
set_option maxHeartbeats 2000000 in
theorem r_readW (ws:List Str) (hne:ws≠[]) (hl:ws.length≤2000000000) (hw:∀ w∈ws,w.length≤1000000000):PCall Tryz.prog 20 [.fsl .loose 1 (vS ws)] (.tup [stpV (readR ws).1,.bool (readR ws).2]):=by
  refine en20 (by simp) (by simp [closedL,V.closed,vS_closed]) ?_
  cases ws with
  | nil => exact absurd rfl hne
  | cons first rest =>
  have hr:∀ w∈rest,w.length≤1000000000:=fun w h => hw w (by simp [h])
  have hrl:rest.length≤2000000000:=by simp at hl; omega
  simp (maxSteps:=1000000) (disch:=omega) only [rg,gD,simprocAttr,c20,vS_cons]
  refine ⟨fun σ H => H.n=2∧H.m 0=some (.arr 11 [zS])∧H.m 1=some (.arr 11 [zS])∧∃ tl,σ=[(0,.fsl .loose 1 (.str first::vS rest)),(2,.ptr 0 0 0),(4,.ptr 1 0 0),(5,.str (rest.headD [])),(6,.str [])]++tl, ?_, ?_⟩
  · cases rest with
    | nil =>
      simp (maxSteps:=1000000) (disch:=omega) only [rg,gD,simprocAttr,vS_nil]
      exact ⟨rfl,rfl,_,rfl⟩
    | cons b r =>
      have h1:(1:Int) < ((r.length+1+1:Nat):Int):=by omega
      simp (maxSteps:=1000000) (disch:=omega) only [rg,gD,simprocAttr,vS_cons,vS_len',h1]
      exact ⟨rfl,rfl,_,rfl⟩
  rintro σ ⟨n,m⟩ ⟨hn,e0,e1,tl,rfl⟩
  subst hn
  simp (maxSteps:=1000000) (disch:=omega) only [rg,gD,simprocAttr]
  refine ⟨fun σ H => H.n=2∧H.m 0=some (.arr 11 [zS])∧H.m 1=some (.arr 11 [zS])∧∃ tl,σ=[(0,.fsl .loose 1 (.str first::vS rest)),(2,.ptr 0 0 0),(4,.ptr 1 0 0),(5,.str (rest.headD [])),(6,.str (rest.tail.headD []))]++tl, ?_, ?_⟩
  · match rest with
    | [] =>
      simp (maxSteps:=1000000) (disch:=omega) only [rg,gD,simprocAttr,vS_nil]
      exact ⟨e0,e1,_,rfl⟩
    | [b] =>
      simp (maxSteps:=1000000) (disch:=omega) only [rg,gD,simprocAttr,vS_nil,vS_cons]
      exact ⟨e0,e1,_,rfl⟩
    | b::c::r =>
      have h1:(2:Int) < ((r.length+1+1+1:Nat):Int):=by omega
      simp (maxSteps:=1000000) (disch:=omega) only [rg,gD,simprocAttr,vS_cons,vS_len',h1]
      exact ⟨e0,e1,_,rfl⟩
  clear e0 e1 m
  rintro σ ⟨n,m⟩ ⟨hn,e0,e1,tl,rfl⟩
  simp only [zS] at e0 e1
  subst hn
  refine x_cutE ?_
  simp (maxSteps:=1000000) (disch:=omega) only [rg,gD,simprocAttr,e0,e1,vS_len']
  refine ⟨fun c0 => ?_,fun c0 => ⟨fun c1 => ?_,fun c1 => ⟨fun c2 => ?_,fun c2 => ⟨fun c3 => ?_,fun c3 => ⟨fun c4 => ?_,fun c4 => ⟨fun c5 => ?_,fun c5 => ⟨fun c6 => ?_,fun c6 => ⟨fun c7 => ?_,fun c7 => ⟨fun c8 => ?_,fun c8 => ⟨fun c9 => ?_,fun c9 => ⟨fun c10 => ?_,fun c10 => ⟨fun c11 => ?_,fun c11 => ?_⟩⟩⟩⟩⟩⟩⟩⟩⟩⟩⟩⟩
  · -- wCrash
    have e:readR (first::rest)=(⟨zeroC,false,true,rest.map refN⟩,true):=by
      rw [readR,if_pos (show (first::rest).headD []=wCrash from c0)]; try rfl
    rw [show List.take rest.length (vS rest)=vS rest by rw [← vS_len' rest,List.take_length]]
    generalize slSt St.loose _ _ _=st0
    refine ⟨⟨by omega,by omega⟩, ?_⟩
    refine x_it rest.length (fun i σ H => ∃ v,2≤H.n∧H.m 0=some (.arr 11 [.agg [.int .i64 0,.str [],.str [],.int .i64 0,.int .i64 0,.str [],.str [],.fsl .nil 4 [],.bool false,.bool false,.fsl .nil 1 []]])∧H.m 1=some (.arr 11 [.agg [.int .i64 0,.str [],.str [],.int .i64 0,.int .i64 0,.str [],.str [],.fsl .nil 4 [],.bool false,.bool true,v]])∧Gro 2 H.n H.m 1 v (vI ((rest.take i).map refN))∧σ=[(2,.ptr 0 0 0),(4,.ptr 1 0 0),(33,.fsl st0 1 (vS rest)),(34,.int .i64 rest.length),(35,.int .i64 i)]) ⟨_,by simp,(by simp (disch:=omega) only [upd_eq,upd_ne,wo_0,wo_1,wo_2,e0]),(by simp (disch:=omega) only [upd_eq,upd_ne,wo_0,wo_1,wo_2]),Gro.nil,by rw [vS_len']; rfl⟩ ?_
    clear e0 e1
    rintro T i σ ⟨n,m⟩ hi ⟨v,hn2,e0,e1,hG,rfl⟩ hN hX hR
    simp only at hn2 e0 e1 hG
    simp (maxSteps:=1000000) (disch:=omega) only [rg,gD,simprocAttr]
    refine ⟨fun hlt => ?_,fun hlt => ?_⟩
    · have i1:i < rest.length:=by omega
      have hc0:=hG.cell
      simp (maxSteps:=1000000) (disch:=omega) only [rg,gD,simprocAttr,vS_get,e1,hc0]
      refine ⟨_,r_number _ (Nat.le_trans (hr _ (List.getElem_mem i1)) (by omega)), ?_⟩
      simp (maxSteps:=1000000) (disch:=omega) only [rg,gD,simprocAttr]
      refine app_gro (hG.keep (Nat.le_refl _) (fun id h1 h2 => by simp (disch:=omega) only [upd_ne])) (by show 2≤n; omega) (ys:=[.int .i64 (refN rest[i])]) rfl (by simp) (by rw [vI_len,List.length_map,List.length_take]; simp; omega) fun v' fp ds hG' hk1 _ => ?_
      rw [show vI ((rest.take i).map refN)++[.int .i64 (refN rest[i])]=vI ((rest.take (i+1)).map refN) by rw [List.take_succ_eq_append_getElem i1,List.map_append]; exact mv_app1] at hG'
      have k0:=hk1 0 (by omega)
      have k1:=hk1 1 (by omega)
      simp only at k0 k1
      rw [e0] at k0
      rw [e1] at k1
      have hc':=hG'.cell
      simp only at hG'
      simp (maxSteps:=1000000) (disch:=omega) only [rg,gD,simprocAttr,k1,hc']
      refine hN _ _ i1 ?_
      exact ⟨v',by show 2≤n+1; omega,(by simp (disch:=omega) only [upd_eq,upd_ne,wo_0,wo_1,wo_2,k0]),(by simp (disch:=omega) only [upd_eq,upd_ne,wo_0,wo_1,wo_2]),by exact hG'.keep (Nat.le_refl _) (fun id h1 h2 => by simp (disch:=omega) only [upd_ne]),rfl⟩
    · obtain rfl:i=rest.length:=by omega
      rw [List.take_length] at hG
      refine hX _ _ _ ?_
      simp (maxSteps:=1000000) (disch:=omega) only [rg,gD,simprocAttr]
      obtain ⟨fz,st,f1,f2,f3⟩:=hG.frz vI_closed
      have d0:=frl_cl (fz:=fz) (ids:=[]) e0 (by simp [closedL,V.closed]) (fun h => by have:=f1 _ h; omega) (by simp)
      have d1:=frl_get (fz:=fz) (ids:=[]) e1 (fun h => by have:=f1 _ h; omega) (by simp)
      have k1:frzV fz m (.agg [.int .i64 0,.str [],.str [],.int .i64 0,.int .i64 0,.str [],.str [],.fsl .nil 4 [],.bool false,.bool true,v])=.agg [.int .i64 0,.str [],.str [],.int .i64 0,.int .i64 0,.str [],.str [],.fsl .nil 4 [],.bool false,.bool true,.fsl st 1 (vI (rest.map refN))]:=frzV_mid (pre:=[.int .i64 0,.str [],.str [],.int .i64 0,.int .i64 0,.str [],.str [],.fsl .nil 4 [],.bool false,.bool true]) (post:=[]) f2 rfl rfl
      rw [List.map_cons,List.map_nil,k1] at d1
      refine x_frzL fz [] ?_
      simp only at d0 d1 ⊢
      generalize loH [] (frzH fz m)=m' at d0 d1
      simp (maxSteps:=1000000) (disch:=omega) only [rg,gD,simprocAttr,frz_p,d0,d1]
      refine x_frz0 ?_
      simp (maxSteps:=1000000) (disch:=omega) only [rg,gD,simprocAttr]
      (refine fin_x rfl ?_ ?_<;>simp [pack,lo,loL,V.closed,closedL,mv_closed,e,stpV,zeroD,zeroC,tasksV,mv,vI_lo,vI_closed])
  · -- wCheck
    have e:readR (first::rest)=(⟨zeroC,true,false,[]⟩,true):=by
      rw [readR,if_neg (show ¬ (first::rest).headD []=wCrash from c0),if_pos (show (first::rest).headD []=wCheck from c1)]; try rfl
    refine x_frz0 ?_
    simp (maxSteps:=1000000) (disch:=omega) only [rg,gD,simprocAttr,e0]
    refine x_frz0 ?_
    simp (maxSteps:=1000000) (disch:=omega) only [rg,gD,simprocAttr]
    (refine fin_x rfl ?_ ?_<;>simp [pack,lo,loL,V.closed,closedL,mv_closed,e,stpV,mkS,zeroD,zeroC,zeroS,tasksV,vI,mv])
  · -- wGraph
    have e:readR (first::rest)=(mkS ⟨1,[],[],0,0,[],⟨rest.headD [],(takeT taskR rest.tail).1⟩⟩,(takeT taskR rest.tail).2):=by
      rw [readR,if_neg (show ¬ (first::rest).headD []=wCrash from c0),if_neg (show ¬ (first::rest).headD []=wCheck from c1),if_pos (show (first::rest).headD []=wGraph from c2)]; try rfl
    refine x_it rest.tail.length (fun i σ H => ∃ v ts,2≤H.n∧H.m 0=some (.arr 11 [.agg [.int .i64 0,.str [],.str [],.int .i64 0,.int .i64 0,.str [],.str [],.fsl .nil 4 [],.bool false,.bool false,.fsl .nil 1 []]])∧H.m 1=some (.arr 11 [.agg [.int .i64 1,.str [],.str [],.int .i64 0,.int .i64 0,.str [],.str (rest.headD []),v,.bool false,.bool false,.fsl .nil 1 []]])∧Gro 2 H.n H.m 4 v (mv taskV ts)∧ts.length≤i∧takeT taskR rest.tail=(ts++(takeT taskR (rest.tail.drop i)).1,(takeT taskR (rest.tail.drop i)).2)∧σ=[(0,.fsl .loose 1 (.str first::vS rest)),(2,.ptr 0 0 0),(4,.ptr 1 0 0),(9,.int .i64 ((i+2:Nat):Int))]) ⟨_,[],by simp,(by simp (disch:=omega) only [upd_eq,upd_ne,wo_0,wo_1,wo_2,e0]),(by simp (disch:=omega) only [upd_eq,upd_ne,wo_0,wo_1,wo_2]),Gro.nil,by simp,by simp,rfl⟩ ?_
    clear e0 e1
    rintro T i σ ⟨n,m⟩ hi ⟨v,ts,hn2,e0,e1,hG,htl,htk,rfl⟩ hN hX hR
    simp only at hn2 e0 e1 hG
    have htl2:=rest.length_tail
    simp (maxSteps:=1000000) (disch:=omega) only [rg,gD,simprocAttr,vS_len']
    refine ⟨fun hlt => ?_,fun hlt => ?_⟩
    · have i1:i < rest.tail.length:=by omega
      have hd:rest.tail.drop i=rest.tail[i]::rest.tail.drop (i+1):=by rw [List.drop_eq_getElem_cons i1]
      have hwl:=tail_len hr rest.tail[i] (List.getElem_mem i1)
      have hge:(vS rest)[i+1]?=some (.str rest.tail[i]):=by
        have:i+1 < rest.length:=by omega
        rw [vS_get this,List.getElem_tail]
      have hne:n≠0∧n≠1:=by omega
      rw [hd,takeT] at htk
      simp (maxSteps:=1000000) (disch:=omega) only [rg,gD,simprocAttr,hge]
      refine ⟨_,r_task _ (Nat.le_trans hwl (by omega)), ?_⟩
      cases hw:taskR rest.tail[i] with
      | none =>
        simp only [hw,List.append_nil] at htk
        rw [htk] at e
        have hc0:=hG.cell
        simp (maxSteps:=1000000) (disch:=omega) only [rg,gD,simprocAttr,tkO,taskV,e0,e1,hc0]
        generalize hm2:upd (upd (upd m n _) n _) 0 _=m2
        have g0:m2 0=some (.arr 11 [.agg [.int .i64 1,.str [],.str [],.int .i64 0,.int .i64 0,.str [],.str (rest.headD []),v,.bool false,.bool false,.fsl .nil 1 []]]):=by rw [← hm2,upd_eq]
        have hG2:Gro 2 (n+1) m2 4 v (mv taskV ts):=hG.keep (by omega) (fun id h1 h2 => by rw [← hm2]; simp (disch:=omega) only [upd_ne])
        obtain ⟨fz,st,f1,f2,f3⟩:=hG2.frz (mv_closed taskV_closed)
        have d0:=frl_get (fz:=fz) (ids:=[]) g0 (fun h => by have:=f1 _ h; omega) (by simp)
        have k1:frzV fz m2 (.agg [.int .i64 1,.str [],.str [],.int .i64 0,.int .i64 0,.str [],.str (rest.headD []),v,.bool false,.bool false,.fsl .nil 1 []])=.agg [.int .i64 1,.str [],.str [],.int .i64 0,.int .i64 0,.str [],.str (rest.headD []),.fsl st 4 (mv taskV ts),.bool false,.bool false,.fsl .nil 1 []]:=frzV_mid (pre:=[.int .i64 1,.str [],.str [],.int .i64 0,.int .i64 0,.str [],.str (rest.headD [])]) (post:=[.bool false,.bool false,.fsl .nil 1 []]) f2 rfl rfl
        rw [List.map_cons,List.map_nil,k1] at d0
        refine x_frzL fz [] ?_
        simp only at d0 ⊢
        generalize loH [] (frzH fz m2)=m' at d0
        simp (maxSteps:=1000000) (disch:=omega) only [rg,gD,simprocAttr,frz_p]
        refine hR _ _ ?_
        refine fin_x (l:=[.agg [.int .i64 1,.str [],.str [],.int .i64 0,.int .i64 0,.str [],.str (rest.headD []),.fsl st 4 (mv taskV ts),.bool false,.bool false,.fsl .nil 1 []],.bool false]) (by simp [resE,find,loadO,getC,d0,r20]) ?_ ?_<;>simp [pack,lo,loL,V.closed,closedL,e,stpV,mkS,tasksV,mv_lo taskV_lo,mv_closed taskV_closed,show vI []=[] from rfl]
      | some t =>
        rw [hw] at htk
        have e3:mv taskV ts++[taskV t]=mv taskV (ts++[t]):=mv_app1
        have hc0:=hG.cell
        simp (maxSteps:=1000000) (disch:=omega) only [rg,gD,simprocAttr,tkO,taskV,e1,hc0]
        refine app_gro (hG.keep (by simp only []; omega) (fun id h1 h2 => by simp (disch:=omega) only [upd_ne])) (by show 2≤n+1; omega) (ys:=[taskV t]) rfl (by simp) (by rw [mv_len]; simp; omega) fun v' fp ds hG' hk1 _ => ?_
        rw [e3] at hG'
        have k0:=hk1 0 (by omega)
        have k1:=hk1 1 (by omega)
        simp (disch:=omega) only [upd_eq,upd_ne] at k0 k1
        rw [e0] at k0
        rw [e1] at k1
        have hc:=hG'.cell
        simp only at hG'
        simp (maxSteps:=1000000) (disch:=omega) only [rg,gD,simprocAttr,k1,hc]
        refine hN _ _ i1 ?_
        exact ⟨v',ts++[t],by show 2≤n+1+1; omega,(by simp (disch:=omega) only [upd_eq,upd_ne,wo_0,wo_1,wo_2,k0]),(by simp (disch:=omega) only [upd_eq,upd_ne,wo_0,wo_1,wo_2]),by exact hG'.keep (Nat.le_refl _) (fun id h1 h2 => by simp (disch:=omega) only [upd_ne]),by simp; omega,by rw [htk]; simp,rfl⟩
    · have hie:i=rest.tail.length:=by omega
      subst hie
      rw [List.drop_length] at htk
      simp only [takeT,List.append_nil] at htk
      rw [htk] at e
      refine hX _ _ _ ?_
      simp (maxSteps:=1000000) (disch:=omega) only [rg,gD,simprocAttr]
      obtain ⟨fz,st,f1,f2,f3⟩:=hG.frz (mv_closed taskV_closed)
      have d0:=frl_cl (fz:=fz) (ids:=[]) e0 (by simp [closedL,V.closed]) (fun h => by have:=f1 _ h; omega) (by simp)
      have d1:=frl_get (fz:=fz) (ids:=[]) e1 (fun h => by have:=f1 _ h; omega) (by simp)
      have k1:frzV fz m (.agg [.int .i64 1,.str [],.str [],.int .i64 0,.int .i64 0,.str [],.str (rest.headD []),v,.bool false,.bool false,.fsl .nil 1 []])=.agg [.int .i64 1,.str [],.str [],.int .i64 0,.int .i64 0,.str [],.str (rest.headD []),.fsl st 4 (mv taskV ts),.bool false,.bool false,.fsl .nil 1 []]:=frzV_mid (pre:=[.int .i64 1,.str [],.str [],.int .i64 0,.int .i64 0,.str [],.str (rest.headD [])]) (post:=[.bool false,.bool false,.fsl .nil 1 []]) f2 rfl rfl
      rw [List.map_cons,List.map_nil,k1] at d1
      refine x_frzL fz [] ?_
      simp only at d0 d1 ⊢
      generalize loH [] (frzH fz m)=m' at d0 d1
      simp (maxSteps:=1000000) (disch:=omega) only [rg,gD,simprocAttr,frz_p,d0,d1]
      refine x_frz0 ?_
      simp (maxSteps:=1000000) (disch:=omega) only [rg,gD,simprocAttr]
      (refine fin_x rfl ?_ ?_<;>simp [pack,lo,loL,V.closed,closedL,mv_closed,e,stpV,mkS,tasksV,mv_lo taskV_lo,mv_closed taskV_closed,show vI []=[] from rfl])
  · -- wStart
    have e:readR (first::rest)=(mkS ⟨2,rest.headD [],rest.tail.headD [],0,0,[],zeroD⟩,true):=by
      rw [readR,if_neg (show ¬ (first::rest).headD []=wCrash from c0),if_neg (show ¬ (first::rest).headD []=wCheck from c1),if_neg (show ¬ (first::rest).headD []=wGraph from c2),if_pos (show (first::rest).headD []=wStart from c3)]; try rfl
    refine x_frz0 ?_
    simp (maxSteps:=1000000) (disch:=omega) only [rg,gD,simprocAttr,e0]
    refine x_frz0 ?_
    simp (maxSteps:=1000000) (disch:=omega) only [rg,gD,simprocAttr]
    (refine fin_x rfl ?_ ?_<;>simp [pack,lo,loL,V.closed,closedL,mv_closed,e,stpV,mkS,zeroD,zeroC,zeroS,tasksV,vI,mv])
  · -- wPoll
    have e:readR (first::rest)=(mkS ⟨3,[],[],0,0,[],zeroD⟩,true):=by
      rw [readR,if_neg (show ¬ (first::rest).headD []=wCrash from c0),if_neg (show ¬ (first::rest).headD []=wCheck from c1),if_neg (show ¬ (first::rest).headD []=wGraph from c2),if_neg (show ¬ (first::rest).headD []=wStart from c3),if_pos (show (first::rest).headD []=wPoll from c4)]; try rfl
    refine x_frz0 ?_
    simp (maxSteps:=1000000) (disch:=omega) only [rg,gD,simprocAttr,e0]
    refine x_frz0 ?_
    simp (maxSteps:=1000000) (disch:=omega) only [rg,gD,simprocAttr]
    (refine fin_x rfl ?_ ?_<;>simp [pack,lo,loL,V.closed,closedL,mv_closed,e,stpV,mkS,zeroD,zeroC,zeroS,tasksV,vI,mv])
  · -- wBeat
    have e:readR (first::rest)=(mkS ⟨4,[],[],refN (rest.headD []),0,[],zeroD⟩,true):=by
      rw [readR,if_neg (show ¬ (first::rest).headD []=wCrash from c0),if_neg (show ¬ (first::rest).headD []=wCheck from c1),if_neg (show ¬ (first::rest).headD []=wGraph from c2),if_neg (show ¬ (first::rest).headD []=wStart from c3),if_neg (show ¬ (first::rest).headD []=wPoll from c4),if_pos (show (first::rest).headD []=wBeat from c5)]; try rfl
    refine ⟨_,r_number (rest.headD []) (Nat.le_trans (head_len hr) (by omega)), ?_⟩
    simp (maxSteps:=1000000) (disch:=omega) only [rg,gD,simprocAttr,e1]
    refine x_frz0 ?_
    simp (maxSteps:=1000000) (disch:=omega) only [rg,gD,simprocAttr,e0]
    refine x_frz0 ?_
    simp (maxSteps:=1000000) (disch:=omega) only [rg,gD,simprocAttr]
    (refine fin_x rfl ?_ ?_<;>simp [pack,lo,loL,V.closed,closedL,mv_closed,e,stpV,mkS,zeroD,zeroC,zeroS,tasksV,vI,mv])
  · -- wDone
    have e:readR (first::rest)=(mkS ⟨5,[],[],refN (rest.headD []),0,rest.tail.headD [],zeroD⟩,true):=by
      rw [readR,if_neg (show ¬ (first::rest).headD []=wCrash from c0),if_neg (show ¬ (first::rest).headD []=wCheck from c1),if_neg (show ¬ (first::rest).headD []=wGraph from c2),if_neg (show ¬ (first::rest).headD []=wStart from c3),if_neg (show ¬ (first::rest).headD []=wPoll from c4),if_neg (show ¬ (first::rest).headD []=wBeat from c5),if_pos (show (first::rest).headD []=wDone from c6)]; try rfl
    refine ⟨_,r_number (rest.headD []) (Nat.le_trans (head_len hr) (by omega)), ?_⟩
    simp (maxSteps:=1000000) (disch:=omega) only [rg,gD,simprocAttr,e1]
    refine x_frz0 ?_
    simp (maxSteps:=1000000) (disch:=omega) only [rg,gD,simprocAttr,e0]
    refine x_frz0 ?_
    simp (maxSteps:=1000000) (disch:=omega) only [rg,gD,simprocAttr]
    (refine fin_x rfl ?_ ?_<;>simp [pack,lo,loL,V.closed,closedL,mv_closed,e,stpV,mkS,zeroD,zeroC,zeroS,tasksV,vI,mv])
  · -- wFail
    have e:readR (first::rest)=(mkS ⟨6,[],[],refN (rest.headD []),0,[],zeroD⟩,true):=by
      rw [readR,if_neg (show ¬ (first::rest).headD []=wCrash from c0),if_neg (show ¬ (first::rest).headD []=wCheck from c1),if_neg (show ¬ (first::rest).headD []=wGraph from c2),if_neg (show ¬ (first::rest).headD []=wStart from c3),if_neg (show ¬ (first::rest).headD []=wPoll from c4),if_neg (show ¬ (first::rest).headD []=wBeat from c5),if_neg (show ¬ (first::rest).headD []=wDone from c6),if_pos (show (first::rest).headD []=wFail from c7)]; try rfl
    refine ⟨_,r_number (rest.headD []) (Nat.le_trans (head_len hr) (by omega)), ?_⟩
    simp (maxSteps:=1000000) (disch:=omega) only [rg,gD,simprocAttr,e1]
    refine x_frz0 ?_
    simp (maxSteps:=1000000) (disch:=omega) only [rg,gD,simprocAttr,e0]
    refine x_frz0 ?_
    simp (maxSteps:=1000000) (disch:=omega) only [rg,gD,simprocAttr]
    (refine fin_x rfl ?_ ?_<;>simp [pack,lo,loL,V.closed,closedL,mv_closed,e,stpV,mkS,zeroD,zeroC,zeroS,tasksV,vI,mv])
  · -- wCancel
    have e:readR (first::rest)=(mkS ⟨7,rest.headD [],[],0,0,[],zeroD⟩,true):=by
      rw [readR,if_neg (show ¬ (first::rest).headD []=wCrash from c0),if_neg (show ¬ (first::rest).headD []=wCheck from c1),if_neg (show ¬ (first::rest).headD []=wGraph from c2),if_neg (show ¬ (first::rest).headD []=wStart from c3),if_neg (show ¬ (first::rest).headD []=wPoll from c4),if_neg (show ¬ (first::rest).headD []=wBeat from c5),if_neg (show ¬ (first::rest).headD []=wDone from c6),if_neg (show ¬ (first::rest).headD []=wFail from c7),if_pos (show (first::rest).headD []=wCancel from c8)]; try rfl
    refine x_frz0 ?_
    simp (maxSteps:=1000000) (disch:=omega) only [rg,gD,simprocAttr,e0]
    refine x_frz0 ?_
    simp (maxSteps:=1000000) (disch:=omega) only [rg,gD,simprocAttr]
    (refine fin_x rfl ?_ ?_<;>simp [pack,lo,loL,V.closed,closedL,mv_closed,e,stpV,mkS,zeroD,zeroC,zeroS,tasksV,vI,mv])
  · -- wTick
    have e:readR (first::rest)=(mkS ⟨8,[],[],0,refN (rest.headD []),[],zeroD⟩,true):=by
      rw [readR,if_neg (show ¬ (first::rest).headD []=wCrash from c0),if_neg (show ¬ (first::rest).headD []=wCheck from c1),if_neg (show ¬ (first::rest).headD []=wGraph from c2),if_neg (show ¬ (first::rest).headD []=wStart from c3),if_neg (show ¬ (first::rest).headD []=wPoll from c4),if_neg (show ¬ (first::rest).headD []=wBeat from c5),if_neg (show ¬ (first::rest).headD []=wDone from c6),if_neg (show ¬ (first::rest).headD []=wFail from c7),if_neg (show ¬ (first::rest).headD []=wCancel from c8),if_pos (show (first::rest).headD []=wTick from c9)]; try rfl
    refine ⟨_,r_number (rest.headD []) (Nat.le_trans (head_len hr) (by omega)), ?_⟩
    simp (maxSteps:=1000000) (disch:=omega) only [rg,gD,simprocAttr,e1]
    refine x_frz0 ?_
    simp (maxSteps:=1000000) (disch:=omega) only [rg,gD,simprocAttr,e0]
    refine x_frz0 ?_
    simp (maxSteps:=1000000) (disch:=omega) only [rg,gD,simprocAttr]
    (refine fin_x rfl ?_ ?_<;>simp [pack,lo,loL,V.closed,closedL,mv_closed,e,stpV,mkS,zeroD,zeroC,zeroS,tasksV,vI,mv])
  · -- wState
    have e:readR (first::rest)=(mkS ⟨9,rest.headD [],[],0,0,[],zeroD⟩,true):=by
      rw [readR,if_neg (show ¬ (first::rest).headD []=wCrash from c0),if_neg (show ¬ (first::rest).headD []=wCheck from c1),if_neg (show ¬ (first::rest).headD []=wGraph from c2),if_neg (show ¬ (first::rest).headD []=wStart from c3),if_neg (show ¬ (first::rest).headD []=wPoll from c4),if_neg (show ¬ (first::rest).headD []=wBeat from c5),if_neg (show ¬ (first::rest).headD []=wDone from c6),if_neg (show ¬ (first::rest).headD []=wFail from c7),if_neg (show ¬ (first::rest).headD []=wCancel from c8),if_neg (show ¬ (first::rest).headD []=wTick from c9),if_pos (show (first::rest).headD []=wState from c10)]; try rfl
    refine x_frz0 ?_
    simp (maxSteps:=1000000) (disch:=omega) only [rg,gD,simprocAttr,e0]
    refine x_frz0 ?_
    simp (maxSteps:=1000000) (disch:=omega) only [rg,gD,simprocAttr]
    (refine fin_x rfl ?_ ?_<;>simp [pack,lo,loL,V.closed,closedL,mv_closed,e,stpV,mkS,zeroD,zeroC,zeroS,tasksV,vI,mv])
  · -- wSync
    have e:readR (first::rest)=(mkS ⟨10,[],[],0,0,[],zeroD⟩,true):=by
      rw [readR,if_neg (show ¬ (first::rest).headD []=wCrash from c0),if_neg (show ¬ (first::rest).headD []=wCheck from c1),if_neg (show ¬ (first::rest).headD []=wGraph from c2),if_neg (show ¬ (first::rest).headD []=wStart from c3),if_neg (show ¬ (first::rest).headD []=wPoll from c4),if_neg (show ¬ (first::rest).headD []=wBeat from c5),if_neg (show ¬ (first::rest).headD []=wDone from c6),if_neg (show ¬ (first::rest).headD []=wFail from c7),if_neg (show ¬ (first::rest).headD []=wCancel from c8),if_neg (show ¬ (first::rest).headD []=wTick from c9),if_neg (show ¬ (first::rest).headD []=wState from c10),if_pos (show (first::rest).headD []=wSync from c11)]; try rfl
    refine x_frz0 ?_
    simp (maxSteps:=1000000) (disch:=omega) only [rg,gD,simprocAttr,e0]
    refine x_frz0 ?_
    simp (maxSteps:=1000000) (disch:=omega) only [rg,gD,simprocAttr]
    (refine fin_x rfl ?_ ?_<;>simp [pack,lo,loL,V.closed,closedL,mv_closed,e,stpV,mkS,zeroD,zeroC,zeroS,tasksV,vI,mv])
  · -- none
    have e:readR (first::rest)=(zeroS,false):=by
      rw [readR,if_neg (show ¬ (first::rest).headD []=wCrash from c0),if_neg (show ¬ (first::rest).headD []=wCheck from c1),if_neg (show ¬ (first::rest).headD []=wGraph from c2),if_neg (show ¬ (first::rest).headD []=wStart from c3),if_neg (show ¬ (first::rest).headD []=wPoll from c4),if_neg (show ¬ (first::rest).headD []=wBeat from c5),if_neg (show ¬ (first::rest).headD []=wDone from c6),if_neg (show ¬ (first::rest).headD []=wFail from c7),if_neg (show ¬ (first::rest).headD []=wCancel from c8),if_neg (show ¬ (first::rest).headD []=wTick from c9),if_neg (show ¬ (first::rest).headD []=wState from c10),if_neg (show ¬ (first::rest).headD []=wSync from c11)]; try rfl
    refine x_frz0 ?_
    simp (maxSteps:=1000000) (disch:=omega) only [rg,gD,simprocAttr,e0]
    (refine fin_x rfl ?_ ?_<;>simp [pack,lo,loL,V.closed,closedL,mv_closed,e,stpV,mkS,zeroD,zeroC,zeroS,tasksV,vI,mv])
end
section
theorem refN_64 (s:Str):i64 (refN s):=⟨by have:=refN_ge s; omega,refN_le s⟩
theorem taskR_ok {w:Str} {t:Task} (h:taskR w=some t):t.needs.length≤w.length+1∧okTk t∧(∀ x∈t.needs,x≤9223372036854775807)∧t.tries≤9223372036854775807∧t.wait≤9223372036854775807∧t.lease≤9223372036854775807:=by
  unfold taskR at h
  have hb:∀ x∈(splitC 44 w).map refN,i64 x:=fun x hx => by obtain ⟨y,_,rfl⟩:=List.mem_map.1 hx; exact refN_64 y
  have hn:((splitC 44 w).map refN).length≤w.length+1:=by rw [List.length_map]; exact splitC_len 44 w
  generalize (splitC 44 w).map refN=l at *
  match l with
  | [] => simp [mkTask] at h
  | [_] => simp [mkTask] at h
  | [_,_] => simp [mkTask] at h
  | a::b::c::r =>
    simp only [mkTask,Option.some.injEq] at h; subst h
    have ha:=hb a (by simp); have hb':=hb b (by simp); have hc:=hb c (by simp)
    exact ⟨by simp at hn ⊢; omega,⟨fun x hx => hb x (by simp [hx]),ha,hb',hc⟩,fun x hx => (hb x (by simp [hx])).2,ha.2,hb'.2,hc.2⟩
theorem readR_ok (ws:List Str) (hl:ws.length≤1000000001) (hw:∀ w∈ws,w.length≤1000000000):okStp (readR ws).1∧i64 (readR ws).1.cmd.token∧i64 (readR ws).1.cmd.time∧(∀ t∈(readR ws).1.cmd.dag.tasks,okTk t)∧∀ x∈(readR ws).1.masks,i64 x:=by
  have hr:∀ w∈ws.tail,w.length≤1000000000:=fun w h => hw w (List.mem_of_mem_tail h)
  have hr2:∀ w∈ws.tail.tail,w.length≤1000000000:=fun w h => hr w (List.mem_of_mem_tail h)
  have l1:=ws.length_tail
  have l2:=ws.tail.length_tail
  have h0:=head_len hr
  have h1:=head_len hr2
  have n0:=refN_64 (ws.tail.headD [])
  have z:i64 0:=by unfold i64; omega
  have hz:∀ t∈zeroD.tasks,okTk t:=by simp [zeroD]
  by_cases c0:ws.headD []=wCrash
  · rw [readR,if_pos c0]
    exact ⟨⟨okC (by simp) (by simp) (by simp) (by omega) (by omega) zeroD_ok,by simp; omega⟩,z,z,hz,fun x hx => by obtain ⟨y,_,rfl⟩:=List.mem_map.1 hx; exact refN_64 y⟩
  by_cases c1:ws.headD []=wCheck
  · rw [readR,if_neg c0,if_pos c1]
    exact ⟨⟨okC (by simp) (by simp) (by simp) (by omega) (by omega) zeroD_ok,by simp⟩,z,z,hz,by simp⟩
  by_cases c2:ws.headD []=wGraph
  · rw [readR,if_neg c0,if_neg c1,if_pos c2]
    have hk:∀ t∈(takeT taskR ws.tail.tail).1,t.needs.length≤1000000001∧okTk t∧(∀ x∈t.needs,x≤9223372036854775807)∧t.tries≤9223372036854775807∧t.wait≤9223372036854775807∧t.lease≤9223372036854775807:=fun t ht => by
      refine takeT_ok (q:=fun t => t.needs.length≤1000000001∧okTk t∧(∀ x∈t.needs,x≤9223372036854775807)∧t.tries≤9223372036854775807∧t.wait≤9223372036854775807∧t.lease≤9223372036854775807) (fun w hw t ht => ?_) t ht
      obtain ⟨q1,q2⟩:=taskR_ok ht
      have:=hr2 w hw
      exact ⟨by omega,q2⟩
    have hlen:=takeT_len taskR ws.tail.tail
    exact ⟨⟨okC (by simp) (by simp) (by simp) (by omega) (by omega) ⟨by simp only; omega,fun t ht => ⟨(hk t ht).1,(hk t ht).2.2⟩⟩,by simp [mkS]⟩,z,z,fun t ht => (hk t ht).2.1,by simp [mkS]⟩
  by_cases c3:ws.headD []=wStart
  · rw [readR,if_neg c0,if_neg c1,if_neg c2,if_pos c3]
    exact ⟨⟨okC h0 h1 (by simp) (by omega) (by omega) zeroD_ok,by simp [mkS]⟩,z,z,hz,by simp [mkS]⟩
  by_cases c4:ws.headD []=wPoll
  · rw [readR,if_neg c0,if_neg c1,if_neg c2,if_neg c3,if_pos c4]
    exact ⟨⟨okC (by simp) (by simp) (by simp) (by omega) (by omega) zeroD_ok,by simp [mkS]⟩,z,z,hz,by simp [mkS]⟩
  by_cases c5:ws.headD []=wBeat
  · rw [readR,if_neg c0,if_neg c1,if_neg c2,if_neg c3,if_neg c4,if_pos c5]
    exact ⟨⟨okC (by simp) (by simp) (by simp) n0.2 (by omega) zeroD_ok,by simp [mkS]⟩,n0,z,hz,by simp [mkS]⟩
  by_cases c6:ws.headD []=wDone
  · rw [readR,if_neg c0,if_neg c1,if_neg c2,if_neg c3,if_neg c4,if_neg c5,if_pos c6]
    exact ⟨⟨okC (by simp) (by simp) h1 n0.2 (by omega) zeroD_ok,by simp [mkS]⟩,n0,z,hz,by simp [mkS]⟩
  by_cases c7:ws.headD []=wFail
  · rw [readR,if_neg c0,if_neg c1,if_neg c2,if_neg c3,if_neg c4,if_neg c5,if_neg c6,if_pos c7]
    exact ⟨⟨okC (by simp) (by simp) (by simp) n0.2 (by omega) zeroD_ok,by simp [mkS]⟩,n0,z,hz,by simp [mkS]⟩
  by_cases c8:ws.headD []=wCancel
  · rw [readR,if_neg c0,if_neg c1,if_neg c2,if_neg c3,if_neg c4,if_neg c5,if_neg c6,if_neg c7,if_pos c8]
    exact ⟨⟨okC h0 (by simp) (by simp) (by omega) (by omega) zeroD_ok,by simp [mkS]⟩,z,z,hz,by simp [mkS]⟩
  by_cases c9:ws.headD []=wTick
  · rw [readR,if_neg c0,if_neg c1,if_neg c2,if_neg c3,if_neg c4,if_neg c5,if_neg c6,if_neg c7,if_neg c8,if_pos c9]
    exact ⟨⟨okC (by simp) (by simp) (by simp) (by omega) n0.2 zeroD_ok,by simp [mkS]⟩,z,n0,hz,by simp [mkS]⟩
  by_cases c10:ws.headD []=wState
  · rw [readR,if_neg c0,if_neg c1,if_neg c2,if_neg c3,if_neg c4,if_neg c5,if_neg c6,if_neg c7,if_neg c8,if_neg c9,if_pos c10]
    exact ⟨⟨okC h0 (by simp) (by simp) (by omega) (by omega) zeroD_ok,by simp [mkS]⟩,z,z,hz,by simp [mkS]⟩
  by_cases c11:ws.headD []=wSync
  · rw [readR,if_neg c0,if_neg c1,if_neg c2,if_neg c3,if_neg c4,if_neg c5,if_neg c6,if_neg c7,if_neg c8,if_neg c9,if_neg c10,if_pos c11]
    exact ⟨⟨okC (by simp) (by simp) (by simp) (by omega) (by omega) zeroD_ok,by simp [mkS]⟩,z,z,hz,by simp [mkS]⟩
  · rw [readR,if_neg c0,if_neg c1,if_neg c2,if_neg c3,if_neg c4,if_neg c5,if_neg c6,if_neg c7,if_neg c8,if_neg c9,if_neg c10,if_neg c11]
    exact ⟨⟨okC (by simp) (by simp) (by simp) (by omega) (by omega) zeroD_ok,by simp [zeroS]⟩,z,z,hz,by simp [zeroS]⟩
theorem planG_fuel (f f':Nat) (s:Str) (acc:List Stp) (z:Int) (h1:s.length≤f) (h2:s.length≤f'):planG f s acc z=planG f' s acc z:=by
  rw [← planF_G,← planF_G]; exact planF_fuel s.length f f' s acc z (Nat.le_refl _) h1 h2
theorem planG_step {s:Str} {acc:List Stp} {z:Int} (h:¬ s=[]):planG s.length s acc z=if (cutC 10 s).2.2=true∧acc.length < 200∧(lineR (cutC 10 s).1).2=true then planG (cutC 10 s).2.1.length (cutC 10 s).2.1 (acc++[(lineR (cutC 10 s).1).1]) z else (zeroP,250,acc.length+2):=by
  have hp:=List.length_pos_iff.2 h
  obtain ⟨f,hf⟩:∃ g,s.length=g+1:=⟨s.length - 1,by omega⟩
  conv => lhs; rw [hf,planG,if_neg h]
  split
  · rename_i c
    have:=cut_len 10 s c.1
    exact planG_fuel f _ _ _ _ (by omega) (by omega)
  · rfl
set_option maxHeartbeats 2000000 in
theorem r_parseP (s:Str) (hl:s.length≤1000000000):PCall Tryz.prog 6 [.str s] (.tup [plnV (refPl s).1,.int .i64 (refPl s).2.1,.int .i64 (refPl s).2.2]):=by
  refine en6 (by simp) (by simp [closedL,V.closed]) ?_
  obtain ⟨b1,b2⟩:=cutC_le 10 s
  simp (maxSteps:=1000000) (disch:=omega) only [rg,gD,simprocAttr,c6]
  refine ⟨_,r_cut s 10 (by omega), ?_⟩
  simp (maxSteps:=1000000) (disch:=omega) only [rg,gD,simprocAttr]
  refine ⟨_,r_split _ 32 (by omega), ?_⟩
  have hpl:=piece_len 32 (cutC 10 s).1
  simp (maxSteps:=1000000) (disch:=omega) only [rg,gD,simprocAttr]
  have href:refPl s=if (cutC 10 s).2.2=true∧planB ⟨sizeR (splitC 32 (cutC 10 s).1),[]⟩=true then planG s.length (cutC 10 s).2.1 [] (sizeR (splitC 32 (cutC 10 s).1)) else (zeroP,250,1):=rfl
  refine ⟨fun σ H => H.n=2∧H.m 0=some (.arr 2 [.agg [.int .i64 0,.fsl .nil 11 []]])∧H.m 1=some (.arr 2 [.agg [.int .i64 (sizeR (splitC 32 (cutC 10 s).1)),.fsl .nil 11 []]])∧(find 2 σ=some (.ptr 0 0 0)∧find 6 σ=some (.str (cutC 10 s).2.1)∧find 7 σ=some (.bool (cutC 10 s).2.2)∧find 9 σ=some (.ptr 1 0 0)), ?_, ?_⟩
  · generalize splitC 32 (cutC 10 s).1=l at hpl
    by_cases h2:l.length=2
    case neg =>
      have e:sizeR l=0:=by rw [sizeR,if_neg (fun h => h2 h.1)]
      simp (maxSteps:=1000000) (disch:=omega) only [rg,gD,simprocAttr,vS_len',show ¬ (l.length:Int)=2 by omega]
      rw [e]
    match l,h2 with
    | [a,b],_ =>
      have hb:=hpl b (by simp)
      by_cases ha:a=[115,105,122,101]
      · have e:sizeR [[115,105,122,101],b]=refN b:=by rw [sizeR,if_pos ⟨rfl,rfl⟩]; rfl
        simp (maxSteps:=1000000) (disch:=omega) only [rg,gD,simprocAttr,vS_cons,vS_nil,ha]
        refine ⟨_,r_number b (by omega), ?_⟩
        simp (maxSteps:=1000000) (disch:=omega) only [rg,gD,simprocAttr]
        rw [e]
      · have e:sizeR [a,b]=0:=by rw [sizeR,if_neg (fun h => ha h.2)]
        simp (maxSteps:=1000000) (disch:=omega) only [rg,gD,simprocAttr,vS_cons,vS_nil,ha]
        rw [e]
  rintro σ ⟨n,m⟩ ⟨hn,e0,e1,g2,g6,g7,g9⟩
  simp only at hn e0 e1
  subst hn
  generalize sizeR (splitC 32 (cutC 10 s).1)=sz at e1 href
  have hp0:=r_right ⟨sz,[]⟩ (by simp) (by simp)
  unfold plnV at hp0
  generalize (cutC 10 s).2.2=ok at href g7
  cases ok with
  | false =>
    rw [if_neg (by simp)] at href
    refine x_frz0 ?_
    simp (maxSteps:=1000000) (disch:=omega) only [rg,gD,simprocAttr,g2,g6,g7,g9,e0]
    refine x_frz0 ?_
    simp (maxSteps:=1000000) (disch:=omega) only [rg,gD,simprocAttr]
    (refine fin_x rfl ?_ ?_<;>simp [pack,lo,loL,V.closed,closedL,mv_closed,href,plnV,zeroP,mv])
  | true =>
  refine x_frz0 ?_
  simp (maxSteps:=1000000) (disch:=omega) only [rg,gD,simprocAttr,g2,g6,g7,g9,e1]
  refine ⟨_,PCall.of_eq hp0 (by simp [loL,lo,mv]), ?_⟩
  cases hz:planB ⟨sz,[]⟩ with
  | false =>
    rw [if_neg (by simp [hz])] at href
    simp (maxSteps:=1000000) (disch:=omega) only [rg,gD,simprocAttr,g2,g6,g9,e0]
    refine x_frz0 ?_
    simp (maxSteps:=1000000) (disch:=omega) only [rg,gD,simprocAttr]
    (refine fin_x rfl ?_ ?_<;>simp [pack,lo,loL,V.closed,closedL,mv_closed,href,plnV,zeroP,mv])
  | true =>
  rw [if_pos ⟨rfl,hz⟩,planG_fuel s.length (cutC 10 s).2.1.length _ _ _ b2 (Nat.le_refl _)] at href
  simp (maxSteps:=1000000) (disch:=omega) only [rg,gD,simprocAttr,g2,g6,g9]
  generalize (cutC 10 s).2.1=rem0 at href b2
  refine x_it rem0.length (fun i σ H => ∃ rem acc v,2≤H.n∧H.m 0=some (.arr 2 [.agg [.int .i64 0,.fsl .nil 11 []]])∧H.m 1=some (.arr 2 [.agg [.int .i64 sz,v]])∧Gro 2 H.n H.m 11 v (mv stpV acc)∧acc.length=i∧i≤200∧rem.length+i≤rem0.length∧refPl s=planG rem.length rem acc sz∧σ=[(2,.ptr 0 0 0),(6,.str rem),(9,.ptr 1 0 0),(10,.int .i64 ((i+2:Nat):Int))]) ⟨rem0,[],_,by simp,(by simp (disch:=omega) only [upd_eq,upd_ne,wo_0,wo_1,wo_2,e0]),(by simp (disch:=omega) only [upd_eq,upd_ne,wo_0,wo_1,wo_2,e1]),Gro.nil,rfl,by omega,by omega,href,rfl⟩ ?_
  clear href e0 e1 g2 g6 g7 g9 m
  rintro T i σ ⟨n,m⟩ hi ⟨rem,acc,v,hn2,e0,e1,hG,hal,hi2,hrl,href,rfl⟩ hN hX hR
  simp only at hn2 e0 e1 hG
  simp (maxSteps:=1000000) (disch:=omega) only [rg,gD,simprocAttr]
  refine ⟨fun hlt => ?_,fun hlt => ?_⟩
  · have hrp:=List.length_pos_iff.2 (show ¬ rem=[] from hlt)
    rw [planG_step hlt] at href
    obtain ⟨d1,d2⟩:=cutC_le 10 rem
    refine ⟨_,r_cut rem 10 (by omega), ?_⟩
    simp (maxSteps:=1000000) (disch:=omega) only [rg,gD,simprocAttr]
    refine ⟨_,r_split _ 32 (by omega), ?_⟩
    have hwl:=piece_len 32 (cutC 10 rem).1
    have hws:=splitC_len 32 (cutC 10 rem).1
    simp (maxSteps:=1000000) (disch:=omega) only [rg,gD,simprocAttr]
    refine ⟨_,r_readW _ (splitC_ne 32 _) (by omega) (fun w h => Nat.le_trans (hwl w h) (by omega)), ?_⟩
    have hok:=readR_ok (splitC 32 (cutC 10 rem).1) (by omega) (fun w h => Nat.le_trans (hwl w h) (by omega))
    have hli:lineR (cutC 10 rem).1=((readR (splitC 32 (cutC 10 rem).1)).1,(readR (splitC 32 (cutC 10 rem).1)).2 && (stpB (readR (splitC 32 (cutC 10 rem).1)).1 && decide (Lib.join (wordsS (readR (splitC 32 (cutC 10 rem).1)).1) [32]=(cutC 10 rem).1))):=rfl
    rw [hli] at href
    clear hli
    generalize hyp:readR (splitC 32 (cutC 10 rem).1)=yp at hok href ⊢
    clear hyp
    obtain ⟨y,par⟩:=yp
    try simp only at hok href
    have hc:=hG.cell
    have hll:=hG.len0
    have hn3:n≠0∧n≠1:=by omega
    have hst:(cutC 10 rem).2.2=true→(cutC 10 rem).2.1.length < rem.length:=fun h => (cut_len 10 rem h).1
    have ks:=r_step y hok.1
    have kw:=fun h => r_words y ⟨h,hok.2⟩
    unfold stpV tasksV at ks kw
    generalize (cutC 10 rem).2.2=okl at href hst
    cases okl with
    | false =>
      rw [if_neg (by simp)] at href
      simp (maxSteps:=1000000) (disch:=omega) only [rg,gD,simprocAttr,stpV,tasksV,e0]
      refine x_frz0 ?_
      simp (maxSteps:=1000000) (disch:=omega) only [rg,gD,simprocAttr]
      refine hR _ _ ?_
      simp (maxSteps:=1000000) (disch:=omega) only [rg,gD,simprocAttr]
      (refine fin_x rfl ?_ ?_<;>simp [pack,lo,loL,V.closed,closedL,mv_closed,href,plnV,zeroP,mv,hal])
    | true =>
    cases par with
    | false =>
      rw [if_neg (by simp)] at href
      simp (maxSteps:=1000000) (disch:=omega) only [rg,gD,simprocAttr,stpV,tasksV,e0]
      refine x_frz0 ?_
      simp (maxSteps:=1000000) (disch:=omega) only [rg,gD,simprocAttr]
      refine hR _ _ ?_
      simp (maxSteps:=1000000) (disch:=omega) only [rg,gD,simprocAttr]
      (refine fin_x rfl ?_ ?_<;>simp [pack,lo,loL,V.closed,closedL,mv_closed,href,plnV,zeroP,mv,hal])
    | true =>
    by_cases h200:acc.length < 200
    case neg =>
      rw [if_neg (by simp [h200])] at href
      have h2':(200:Int)≤acc.length:=by omega
      simp (maxSteps:=1000000) (disch:=omega) only [rg,gD,simprocAttr,stpV,tasksV,e1,hc,hll,mv_len,h2',e0]
      refine x_frz0 ?_
      simp (maxSteps:=1000000) (disch:=omega) only [rg,gD,simprocAttr]
      refine hR _ _ ?_
      simp (maxSteps:=1000000) (disch:=omega) only [rg,gD,simprocAttr]
      (refine fin_x rfl ?_ ?_<;>simp [pack,lo,loL,V.closed,closedL,mv_closed,href,plnV,zeroP,mv,hal])
    have h2':¬ (200:Int)≤acc.length:=by omega
    simp (maxSteps:=1000000) (disch:=omega) only [rg,gD,simprocAttr,stpV,tasksV,e1,hc,hll,mv_len,h2']
    refine ⟨_,ks, ?_⟩
    cases hsb:stpB y with
    | false =>
      rw [if_neg (by simp [hsb])] at href
      simp (maxSteps:=1000000) (disch:=omega) only [rg,gD,simprocAttr,e0]
      refine x_frz0 ?_
      simp (maxSteps:=1000000) (disch:=omega) only [rg,gD,simprocAttr]
      refine hR _ _ ?_
      simp (maxSteps:=1000000) (disch:=omega) only [rg,gD,simprocAttr]
      (refine fin_x rfl ?_ ?_<;>simp [pack,lo,loL,V.closed,closedL,mv_closed,href,plnV,zeroP,mv,hal])
    | true =>
    simp (maxSteps:=1000000) (disch:=omega) only [rg,gD,simprocAttr]
    refine ⟨_,kw hsb, ?_⟩
    by_cases hj:Lib.join (wordsS y) [32]=(cutC 10 rem).1
    case neg =>
      rw [if_neg (by simp [hj])] at href
      simp (maxSteps:=1000000) (disch:=omega) only [rg,gD,simprocAttr,hj,e0]
      refine x_frz0 ?_
      simp (maxSteps:=1000000) (disch:=omega) only [rg,gD,simprocAttr]
      refine hR _ _ ?_
      simp (maxSteps:=1000000) (disch:=omega) only [rg,gD,simprocAttr]
      (refine fin_x rfl ?_ ?_<;>simp [pack,lo,loL,V.closed,closedL,mv_closed,href,plnV,zeroP,mv,hal])
    rw [if_pos ⟨rfl,h200,by simp [hsb,hj]⟩] at href
    simp (maxSteps:=1000000) (disch:=omega) only [rg,gD,simprocAttr,hj,e1,hc]
    refine app_gro (hG.keep (by simp only []; omega) (fun id h1 h2 => by simp (disch:=omega) only [upd_ne])) (by show 2≤n+1; omega) (ys:=[stpV y]) rfl (by simp) (by rw [mv_len]; simp; omega) fun v' fp ds hG' hk1 _ => ?_
    have k0:=hk1 0 (by omega)
    have k1:=hk1 1 (by omega)
    simp (disch:=omega) only [upd_eq,upd_ne] at k0 k1
    rw [e0] at k0
    rw [e1] at k1
    rw [show mv stpV acc++[stpV y]=mv stpV (acc++[y]) from mv_app1] at hG'
    have hc':=hG'.cell
    simp only at hG'
    simp (maxSteps:=1000000) (disch:=omega) only [rg,gD,simprocAttr,k1,hc']
    refine hN _ _ (by omega) ?_
    have:=hst rfl
    exact ⟨(cutC 10 rem).2.1,acc++[y],v',by show 2≤n+1+1; omega,(by simp (disch:=omega) only [upd_eq,upd_ne,wo_0,wo_1,wo_2,k0]),(by simp (disch:=omega) only [upd_eq,upd_ne,wo_0,wo_1,wo_2]),by exact hG'.keep (Nat.le_refl _) (fun id h1 h2 => by simp (disch:=omega) only [upd_ne]),by simp; omega,by omega,by omega,href,rfl⟩
  · have hr0:rem=[]:=by simpa using hlt
    subst hr0
    rw [show planG ([]:Str).length [] acc sz=(⟨sz,acc⟩,0,0) from rfl] at href
    refine hX _ _ _ ?_
    simp (maxSteps:=1000000) (disch:=omega) only [rg,gD,simprocAttr]
    obtain ⟨fz,st,f1,f2,f3⟩:=hG.frz (mv_closed stpV_closed)
    have d0:=frl_cl (fz:=fz) (ids:=[]) e0 (by simp [closedL,V.closed]) (fun h => by have:=f1 _ h; omega) (by simp)
    have d1:=frl_get (fz:=fz) (ids:=[]) e1 (fun h => by have:=f1 _ h; omega) (by simp)
    have k1:frzV fz m (.agg [.int .i64 sz,v])=.agg [.int .i64 sz,.fsl st 11 (mv stpV acc)]:=frzV_mid (pre:=[.int .i64 sz]) (post:=[]) f2 rfl rfl
    rw [List.map_cons,List.map_nil,k1] at d1
    refine x_frzL fz [] ?_
    simp only at d0 d1 ⊢
    generalize loH [] (frzH fz m)=m' at d0 d1
    simp (maxSteps:=1000000) (disch:=omega) only [rg,gD,simprocAttr,d0,d1]
    refine x_frz0 ?_
    simp (maxSteps:=1000000) (disch:=omega) only [rg,gD,simprocAttr]
    (refine fin_x rfl ?_ ?_<;>simp [pack,lo,loL,V.closed,closedL,mv_closed,href,plnV,mv_lo stpV_lo,mv_closed stpV_closed])
end
section
theorem stp_ext {a b:Stp}:(a=b)↔(a.check=b.check∧a.crash=b.crash∧a.masks=b.masks∧a.cmd=b.cmd):=by
  obtain ⟨a1,a2,a3,a4⟩:=a; obtain ⟨b1,b2,b3,b4⟩:=b
  simp only [Stp.mk.injEq]
  constructor
  · rintro ⟨rfl,rfl,rfl,rfl⟩; exact ⟨rfl,rfl,rfl,rfl⟩
  · rintro ⟨rfl,rfl,rfl,rfl⟩; exact ⟨rfl,rfl,rfl,rfl⟩
instance:DecidableEq Stp:=fun a b => decidable_of_iff _ stp_ext.symm
instance:DecidableEq Pln:=fun a b => decidable_of_iff (a.size=b.size∧a.steps=b.steps) (by
  obtain ⟨a1,a2⟩:=a; obtain ⟨b1,b2⟩:=b; simp)
set_option maxHeartbeats 2000000 in
theorem r_likeP (a b:Pln) (ha:∀ s∈a.steps,okStp s) (hb:∀ s∈b.steps,okStp s) (hl:a.steps.length≤4611686018427387904):PCall Tryz.prog 8 [plnV a,plnV b] (.bool (decide (a=b))):=by
  refine en8 (by simp) (by simp [closedL,plnV_closed]) ?_
  by_cases c1:a.size=b.size
  case neg =>
    have e:¬ a=b:=fun h => c1 (by rw [h])
    simp (maxSteps:=1000000) (disch:=omega) only [rg,gD,simprocAttr,c8,plnV,mv_len,c1]
    (refine fin_x rfl ?_ ?_<;>simp [pack,lo,loL,V.closed,closedL,mv_closed,e])
  by_cases c2:(a.steps.length:Int)=b.steps.length
  case neg =>
    have e:¬ a=b:=fun h => c2 (by rw [h])
    simp (maxSteps:=1000000) (disch:=omega) only [rg,gD,simprocAttr,c8,plnV,mv_len,c1,c2]
    (refine fin_x rfl ?_ ?_<;>simp [pack,lo,loL,V.closed,closedL,mv_closed,e])
  simp (maxSteps:=1000000) (disch:=omega) only [rg,gD,simprocAttr,c8,plnV,mv_len,c1,c2]
  have c3:a.steps.length=b.steps.length:=by omega
  refine x_it a.steps.length (fun i σ H => 2≤H.n∧H.m 1=some (.arr 2 [.agg [.int .i64 b.size,.fsl .loose 11 (mv stpV b.steps)]])∧a.steps.take i=b.steps.take i∧σ=[(3,.ptr 1 0 0),(23,.fsl .loose 11 (mv stpV a.steps)),(24,.int .i64 a.steps.length),(25,.int .i64 i)]) ⟨by simp,(by simp (disch:=omega) only [upd_eq,upd_ne,wo_0,wo_1,wo_2]),rfl,by first | rfl | simp [c3]⟩ ?_
  rintro T i σ ⟨n,m⟩ hi ⟨hn2,e1,htk,rfl⟩ hN hX hR
  simp only at hn2 e1
  simp (maxSteps:=1000000) (disch:=omega) only [rg,gD,simprocAttr]
  refine ⟨fun hlt => ?_,fun hlt => ?_⟩
  · have i1:i < a.steps.length:=by omega
    have i2:i < b.steps.length:=by omega
    have hg1:(mv stpV a.steps)[i]?=some (stpV a.steps[i]):=mv_get i1
    have hg2:(mv stpV b.steps)[i]?=some (stpV b.steps[i]):=mv_get i2
    have no:¬ a.steps[i]=b.steps[i]→¬ a=b:=fun h he => h (by simp only [he])
    have ka:=ha _ (List.getElem_mem i1)
    have kb:=hb _ (List.getElem_mem i2)
    have sx:a.steps.take (i+1)=b.steps.take (i+1)↔a.steps[i]=b.steps[i]:=by
      rw [List.take_succ_eq_append_getElem i1,List.take_succ_eq_append_getElem i2,htk]
      exact ⟨fun h => by have:=List.append_cancel_left h; simpa using this,fun h => by rw [h]⟩
    generalize a.steps[i]=x at hg1 no ka sx
    generalize b.steps[i]=y at hg2 no kb sx
    have hn3:n≠0∧n≠1:=by omega
    have km:=fSame_ints x.masks y.masks ka.2 kb.2
    have kc:=like_cmd x.cmd y.cmd ⟨ka.1.2.2.2.1,ka.1.2.2.2.2.1⟩ ⟨kb.1.2.2.2.1,kb.1.2.2.2.2.1⟩
    unfold cmdV tasksV at kc
    simp (maxSteps:=1000000) (disch:=omega) only [rg,gD,simprocAttr,hg1,hg2,stpV,tasksV,e1]
    refine ⟨fun q1 => ⟨fun q2 => ?_,fun q2 => ?_⟩,fun q1 => ?_⟩
    rotate_left
    · refine hR _ _ ?_
      simp (maxSteps:=1000000) (disch:=omega) only [rg,gD,simprocAttr]
      (refine fin_x rfl ?_ ?_<;>simp [pack,lo,loL,V.closed,closedL,mv_closed,no (fun h => by rw [h] at q2; simp at q2)])
    · refine hR _ _ ?_
      simp (maxSteps:=1000000) (disch:=omega) only [rg,gD,simprocAttr]
      (refine fin_x rfl ?_ ?_<;>simp [pack,lo,loL,V.closed,closedL,mv_closed,no (fun h => by rw [h] at q1; simp at q1)])
    refine ⟨_,km, ?_⟩
    by_cases q3:x.masks=y.masks
    case neg =>
      simp (maxSteps:=1000000) (disch:=omega) only [rg,gD,simprocAttr,q3]
      refine hR _ _ ?_
      simp (maxSteps:=1000000) (disch:=omega) only [rg,gD,simprocAttr]
      (refine fin_x rfl ?_ ?_<;>simp [pack,lo,loL,V.closed,closedL,mv_closed,no (fun h => q3 (by rw [h]))])
    simp (maxSteps:=1000000) (disch:=omega) only [rg,gD,simprocAttr,q3]
    refine ⟨_,kc, ?_⟩
    by_cases q4:x.cmd=y.cmd
    case neg =>
      simp (maxSteps:=1000000) (disch:=omega) only [rg,gD,simprocAttr,q4]
      refine hR _ _ ?_
      simp (maxSteps:=1000000) (disch:=omega) only [rg,gD,simprocAttr]
      (refine fin_x rfl ?_ ?_<;>simp [pack,lo,loL,V.closed,closedL,mv_closed,no (fun h => q4 (by rw [h]))])
    simp (maxSteps:=1000000) (disch:=omega) only [rg,gD,simprocAttr,q4]
    refine hN _ _ i1 ⟨by show 2≤n+2; omega,(by simp (disch:=omega) only [upd_eq,upd_ne,wo_0,wo_1,wo_2,e1]),sx.2 (stp_ext.2 ⟨by simpa using q1,by simpa using q2,q3,q4⟩),rfl⟩
  · obtain rfl:i=a.steps.length:=by omega
    rw [List.take_length,c3,List.take_length] at htk
    have e:a=b:=by obtain ⟨a1,a2⟩:=a; obtain ⟨b1,b2⟩:=b; simp only at c1 htk; rw [c1,htk]
    refine hX _ _ _ ?_
    simp (maxSteps:=1000000) (disch:=omega) only [rg,gD,simprocAttr]
    refine x_frz0 ?_
    simp (maxSteps:=1000000) (disch:=omega) only [rg,gD,simprocAttr]
    (refine fin_x rfl ?_ ?_<;>simp [pack,lo,loL,V.closed,closedL,mv_closed,e])
end
section
open Go Go.RowKit
abbrev G0 (F:Nat→Option (List Value)):G:=⟨fun _ => none,F⟩
theorem RS.below {F:Nat→Option (List Value)} {w w':World} (h:RS (G0 F) (fun _ => none) w) (hb:Below w.heap.size w w'):RS (G0 F) (fun _ => none) w' :=
  ⟨fun b cs k => by
    obtain ⟨e,fr,h1⟩:=h.fro b cs k
    exact ⟨e,fr,by rw [hb.block b (h.fro_lt k)]; exact h1⟩,by simp,by simp,h.tab⟩
end
def okAll (p:Pln):Prop:=(∀ s∈p.steps,okStp s∧(i64 s.cmd.token∧i64 s.cmd.time∧(∀ t∈s.cmd.dag.tasks,okTk t)∧∀ x∈s.masks,i64 x))∧p.steps.length≤4611686018427387904
section
def okOne (s:Stp):Prop:=okStp s∧(i64 s.cmd.token∧i64 s.cmd.time∧(∀ t∈s.cmd.dag.tasks,okTk t)∧∀ x∈s.masks,i64 x)
theorem planG_okAll:∀ (f:Nat) (s:Str) (acc:List Stp) (z:Int),s.length≤1000000000→(∀ x∈acc,okOne x)→acc.length≤200→okAll (planG f s acc z).1
  | 0,s,acc,z,_,ha,hl => ⟨ha,by simp only [planG]; omega⟩
  | f+1,s,acc,z,hs,ha,hl => by
    rw [planG]
    obtain ⟨b1,b2⟩:=cutC_le 10 s
    split
    · exact ⟨ha,by simp only; omega⟩
    split
    · rename_i c
      refine planG_okAll f _ _ _ (by omega) (fun x hx => ?_) (by simp; omega)
      rcases List.mem_append.1 hx with hx | hx
      · exact ha x hx
      · simp only [List.mem_singleton] at hx; subst hx
        have hwl:=piece_len 32 (cutC 10 s).1
        have hws:=splitC_len 32 (cutC 10 s).1
        exact readR_ok _ (by omega) (fun w h => Nat.le_trans (hwl w h) (by omega))
    · exact ⟨by simp [zeroP],by simp [zeroP]⟩
theorem refPl_ok (s:Str) (hs:s.length≤1000000000):okAll (refPl s).1:=by
  unfold refPl
  obtain ⟨b1,b2⟩:=cutC_le 10 s
  split
  · exact planG_okAll _ _ _ _ (by omega) (by simp) (by simp)
  · exact ⟨by simp [zeroP],by simp [zeroP]⟩
set_option maxHeartbeats 1000000 in
theorem law_reads (s:Str) (hl:s.length≤1000000000):PCall Tryz.prog 3 [.str s] (.bool true):=by
  refine en3 (by simp) (by simp [closedL,V.closed]) ?_
  have kp:=p_plan s hl
  have kr:=r_parseP s hl
  have ho:=refPl_ok s hl
  rw [parse_ref] at kp
  generalize refPl s=t at kp kr ho
  obtain ⟨q,e,k⟩:=t
  simp only at kp kr ho
  have kl:=r_likeP q q (fun s hs => (ho.1 s hs).1) (fun s hs => (ho.1 s hs).1) ho.2
  unfold plnV at kp kr kl
  simp (maxSteps:=1000000) (disch:=omega) only [rg,gD,simprocAttr,c3]
  refine ⟨_,kp, ?_⟩
  simp (maxSteps:=1000000) (disch:=omega) only [rg,gD,simprocAttr]
  refine ⟨_,kr, ?_⟩
  simp (maxSteps:=1000000) (disch:=omega) only [rg,gD,simprocAttr]
  refine ⟨_,p_alive, ?_⟩
  simp (maxSteps:=1000000) (disch:=omega) only [rg,gD,simprocAttr]
  refine ⟨_,kl, ?_⟩
  simp (maxSteps:=1000000) (disch:=omega) only [rg,gD,simprocAttr]
  (refine fin_x rfl ?_ ?_<;>simp [pack,lo,loL,V.closed,closedL,mv_closed])
end
theorem row_reads25 (s:Str) (h:s.length≤1048576):PCall Tryz.prog 3 [.str s] (.bool true):=law_reads s (by omega)
theorem str_R (g:G) (s:ByteArray):R g (.str s.data.toList) (.string s):=by
  simp only [R]
end Go.Proofs.YtnglmdheiabdcaaGreatDoor.Ev
