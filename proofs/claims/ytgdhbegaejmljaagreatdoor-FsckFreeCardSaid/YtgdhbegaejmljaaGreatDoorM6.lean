/-
  Part 6 of what the proof of the statement FsckFree leans on: the evaluator, the functions in compact form, and what they answer.
-/
import Derived.Test.YtgdhbegaejmljaaGreatDoorM5
set_option linter.unusedSimpArgs false
set_option linter.unusedVariables false
set_option maxRecDepth 10000
namespace Go.Proofs.YtgdhbegaejmljaaGreatDoor.Ev
open Go
section
open Go Go.RowKit
def rep24:List Str:=List.replicate 24 []
theorem d1w (H:Hp):ACall Tryz.prog 39 [.int .i64 24] H [] (.tup [.agg [.sl (H.n+1) 0 24,.fsl .nil 2 []],.int .i64 0]) [(H.n+1,some (.arr 1 (vS rep24)))] 2:=by
 refine ena39 (by simp) (by simp [lowL,V.low]) (by simp) (by simp) ?_;simp (disch:=omega) only [gG,simprocAttr,c39];exact b0f (l:=[.agg [.sl (H.n+1) 0 24,.fsl .nil 2 []],.int .i64 0]) (by simp [r39,resE,a7g,find,upd,getC]) (.inl rfl) (by simp) (fun id => by by_cases e:id=H.n+1<;>simp [appd,only,upd,vS,mv,e,rep24])
def e1c:Str:=(d1t ⟨1,0,10,24⟩).1
def e5t:Str:=(c4d ⟨3,1,pk ((rowA 24).set 10 true)⟩).1
def fmt24:List Str:=(rep24.set 0 e1c).set 10 e5t
theorem e2m:d1t ⟨1,0,10,24⟩=(e1c,0):=by kernel_rfl
theorem e1o:c4d ⟨3,1,pk ((rowA 24).set 10 true)⟩=(e5t,0):=by kernel_rfl
theorem e4t:c8v (rowA 24) (rowA 24)=.tup [aV (rowA 24) ((rowA 24).set 10 true),.int .i64 10,.int .i64 0]:=by kernel_rfl
theorem e8q:newV 24=.tup [aV (rowA 24) (rowA 24),.int .i64 0]:=by kernel_rfl
theorem e1x (m:Hm) (h0:m 0=some (.arr 2 [.agg [.sl 3 0 24,.fsl .nil 2 []]])) (h3:m 3=some (.arr 1 (vS fmt24))):evX Tryz.prog (.frz .ret) [(2,.ptr 0 0 0),(3,.int .i64 0)] ⟨5,m⟩ (Fin r16 (.tup [devV fmt24 [],.int .i64 0])):=by
 refine d4y [3] ?_;have z:frzV [3] m (.agg [.sl 3 0 24,.fsl .nil 2 []])=.agg [.fsl .loose 1 (vS fmt24),.fsl .nil 2 []]:=by
  unfold frzV;rw [a8l (n:=3) (l':=[.fsl .loose 1 (vS fmt24),.fsl .nil 2 []])];simp only [mapO,a6g (n:=2) (id:=3) (sz:=1) (len:=24) (l:=vS fmt24) (show only [3] m 3=_ by simp [only,h3]) a0i rfl,a1k (show V.closed (.fsl .nil 2 [])=true from rfl)]
 have d0:frzH [3] m 0=some (.arr 2 [.agg [.fsl .loose 1 (vS fmt24),.fsl .nil 2 []]]):=by simp [frzH,h0,frzO,z]
 have hs:frzS [3] m [(2,.ptr 0 0 0),(3,.int .i64 0)]=[(2,.ptr 0 0 0),(3,.int .i64 0)]:=by simp [frzS,frzV,snap,V.closed]
 rw [hs];generalize frzH [3] m=m' at d0 ⊢;exact a0e (l:=[.agg [.fsl .loose 1 (vS fmt24),.fsl .nil 2 []],.int .i64 0]) (by simp [r16,resE,a7g,find,d0,getC]) (by simp [pack,V.closed,a0b,a0i]) (by simp [pack,lo,loL,devV,b8g,mv])
theorem b8i:PCall Tryz.prog 16 [.int .i64 24] (.tup [devV fmt24 [],.int .i64 0]):=by
 refine en16 (by simp) (by simp [a0b,V.closed]) ?_;have h1:=c8h 24;rw [e8q] at h1;have h2:=fun s1 s2 => c4w s1 s2 (rowA 24) (rowA 24);rw [e4t] at h2;have h3:=fun st => e0o st ((rowA 24).set 10 true) (by decide);have h4:=c0k ⟨3,1,pk ((rowA 24).set 10 true)⟩ (by decide);rw [e1o] at h4;have h5:=d2z ⟨1,0,10,24⟩;rw [e2m] at h5;simp only [pgV,spV,sV] at h4 h5;generalize pk ((rowA 24).set 10 true)=bm at h3 h4;simp (disch:=omega) only [gG,simprocAttr,c16];refine ⟨_,h1, ?_⟩;simp (disch:=omega) only [gG,simprocAttr,aV];refine ⟨_,h2 _ _, ?_⟩;simp (disch:=omega) only [gG,simprocAttr,aV];refine .of (d1w _) ?_;simp (disch:=omega) only [gG,simprocAttr];refine ⟨_,h3 _, ?_⟩;simp (disch:=omega) only [gG,simprocAttr];refine ⟨_,h4, ?_⟩;simp (disch:=omega) only [gG,simprocAttr];refine ⟨_,h5, ?_⟩;have g0:(vS rep24)[0]?=some (.str []):=rfl;have g1:(vS (rep24.set 0 e1c))[10]?=some (.str []):=rfl;simp (disch:=omega) only [gG,simprocAttr,g0,d1m,g1];refine ⟨by simp [a1f,disj,nthL], ?_⟩;exact e1x _ (by simp (disch:=omega) only [a0d,a0c,wo_0,wo_1,wo_2]) (by simp (disch:=omega) only [a0d,a0c,wo_0,wo_1,wo_2,fmt24])
end
section
open Go Go.RowKit
theorem d4a {bl:List Str} {c:Sp×Int×Int} {now:List Bool} (h1:a2u bl []=true) (h2:24≤bl.length) (h3:a0k [bl.getD 0 [],bl.getD 1 []]=c) (h4:c.2.2=0) (h5:c.1.z=bl.length) (h6:c.1.g < 1099511627776)
  (h7:rowS (bl.getD c.1.m.toNat []) c.1=(now,true)) (h8:(ckR (mntW bl c.1 now) c.1.m).2=0):mntS bl []=(⟨c.1,c.2.1,mntW bl c.1 now,a4t c.1.g 0 ((bl.take 10).drop 2)⟩,0):=by
 unfold mntS;rw [if_neg (by simp [h1]),if_neg (by omega),h3,if_neg (by simp [h4,h5]; omega),h7,if_neg (by simp),if_neg (by simpa using h8)]
theorem d0c {bl:List Str} {pe:List (Int×Str)} (h:(mntS bl pe).2=0):pe=[]∧∃ c now,a2u bl []=true∧24≤bl.length∧a0k [bl.getD 0 [],bl.getD 1 []]=c∧c.2.2=0∧c.1.z=bl.length∧c.1.g < 1099511627776 ∧
  rowS (bl.getD c.1.m.toNat []) c.1=(now,true)∧(ckR (mntW bl c.1 now) c.1.m).2=0∧mntS bl pe=(⟨c.1,c.2.1,mntW bl c.1 now,a4t c.1.g 0 ((bl.take 10).drop 2)⟩,0):=by
 have hh:=h;unfold mntS at h;split at h
 ·simp at h
 rename_i c0;split at h
 ·simp at h
 rename_i c1;split at h
 ·simp at h
 rename_i c2;split at h
 ·simp at h
 rename_i c3;split at h
 ·simp at h
 rename_i c4;have hp:pe=[]:=Decidable.byContradiction fun e => c0 (.inr e);subst hp;have hd:a2u bl []=true:=by
  cases e:a2u bl [] with
  | true => rfl
  | false => exact absurd (.inl e) c0
 generalize hc:a0k [bl.getD 0 [],bl.getD 1 []]=c at *;simp only [not_or,ne_eq,Decidable.not_not,Int.not_le] at c2;generalize hr:rowS (bl.getD c.1.m.toNat []) c.1=rw' at *;obtain ⟨now,is⟩:=rw';have hi:is=true:=by simpa using c3
 subst hi;have h8:(ckR (mntW bl c.1 now) c.1.m).2=0:=Decidable.byContradiction c4;exact ⟨rfl,c,now,hd,by omega,rfl,c2.1,c2.2.1,c2.2.2,hr,h8,d4a hd (by omega) hc c2.1 c2.2.1 c2.2.2 hr h8⟩
theorem e1t {bl:List Str} {a:Nat} {x:Str} (h:(mntS bl []).2=0) (h10:10≤a) (ha:a < bl.length) (hf:(mntS bl []).1.w.n.getD a false=false) (hx:a4i x=true):mntS (bl.set a x) []=mntS bl []:=by
 obtain ⟨_,c,now,d1,d2,d3,d4,d5,d6,d7,d8,d9⟩:=d0c h;rw [d9] at hf;simp only [mntW] at hf;have hg:∀ i,i≠a→(bl.set a x).getD i []=bl.getD i []:=fun i hi => by
  simp [List.getD_eq_getElem?_getD,List.getElem?_set,Ne.symm hi]
 have hW:mntW (bl.set a x) c.1 now=mntW bl c.1 now:=by
  have:pgsI (bl.set a x) now (bl.set a x).length=pgsI bl now bl.length:=by
   unfold pgsI;rw [List.length_set];refine List.map_congr_left fun b hb => ?_;by_cases e:b=a
   ·subst e; rw [hf]; simp
   ·rw [hg b e]
  unfold mntW;rw [this]
 have hck:=(b9a (mntW bl c.1 now) c.1.m (by
  simp only [mntW,a8u];simp [a2u] at d1; omega)).2.1 d8
 have hm:c.1.m.toNat≠a:=fun e => by
  have:=hck.2.2;simp only [mntW] at this;rw [e,hf] at this; cases this
 have hd1:a2u (bl.set a x) []=true:=by
  simp only [a2u,List.length_set,Bool.and_eq_true,decide_eq_true_eq] at d1 ⊢;obtain ⟨q1,q2,q3,q4,q5⟩:=d1;refine ⟨q1,q2,q3, ?_,q5⟩;rw [List.all_eq_true] at q4 ⊢;intro y hy;rcases List.mem_or_eq_of_mem_set hy with hy | rfl
  ·exact q4 y hy
  ·exact hx
 have:=d4a (bl:=bl.set a x) (c:=c) (now:=now) hd1 (by simpa using d2) (by rw [hg 0 (by omega),hg 1 (by omega)]; exact d3) d4 (by simpa using d5) d6 (by rw [hg _ hm]; exact d7) (by rw [hW]; exact d8);rw [this,d9,hW];have ht:(bl.set a x).take 10=bl.take 10:=by
  rw [List.take_set,List.set_eq_of_length_le (by simp; omega)]
 rw [ht]
def W24:Wo:=mntW fmt24 ⟨1,0,10,24⟩ ((rowA 24).set 10 true)
theorem b2y:plain W24 10:=⟨by kernel_rfl,rfl,by decide,by decide,by decide⟩
theorem e8t:mntS fmt24 []=(⟨⟨1,0,10,24⟩,0,W24,[]⟩,0):=by
 have h8:=((b9a W24 10 (by decide)).2.2 b2y).1;have:=d4a (bl:=fmt24) (c:=(⟨1,0,10,24⟩,0,0)) (now:=(rowA 24).set 10 true) (by kernel_rfl) (by decide) (by kernel_rfl) rfl rfl (by decide) (by kernel_rfl) h8;rw [this];have hs:a4t 1 0 ((fmt24.take 10).drop 2)=[]:=by kernel_rfl
 simp only [hs];rfl
theorem e8h:prF W24=([],0):=by
 have h1:=fun (n:Nat) (M:List Pr) => ((d3r W24 [] (by decide)).2.2 b2y.1 (by decide) rfl);unfold prF prL;obtain ⟨a,b,c⟩:=h1 0 [];rw [c,b,a];rfl
theorem e4j:telQ (mntS fmt24 [])=(⟨⟨1,0,10,24⟩,0,W24,[]⟩,[],0):=by
 rw [e8t];unfold telQ;rw [if_neg (by simp),e8h,if_neg (by simp)];have hs:a3d cmpP ([]:List Pr)=[]:=(a5n a4l []).1.eq_nil;simp [rcL,hs]
end
section
open Classical in
noncomputable def a3i (l:List Pr):Wd×Int:=match a5f ld0 l with
 | some s => if WR (ldW s)∧b0e (ldW s)=l then (ldW s,0) else (zW,4)
 | none => (zW,4)
theorem e8c {m:Hm} (h1:m 1=some (.mp [])) (h2:m 2=some (.mp [])) (h3:m 3=some (.arr 7 [.agg [.int .i64 0,.int .i64 0,.fsl .nil 2 [],.fsl .nil 5 [],.map 1,.map 2,.bool false]])):LdR 4 4 m 3 1 2 ld0 none none [] :=
 ⟨h3,h1,h2,rfl,rfl,rfl,fun j h => by simp [ld0] at h,.nil,fun i hi => by simp [idsL] at hi⟩
theorem d4p {w:Wd} (h:WR w):(b0e w).length≤1000:=by
 have:=(c7n h).2.length_eq;have h4:=a6o h.few;have hML:(a2s w).length≤1:=by unfold a2s; split<;>simp
 have:=h.ndags; have:=h.nruns;simp only [a8z,List.length_append,List.length_map] at *; omega
open Classical in
set_option maxHeartbeats 2000000 in
theorem b9b (st:St) (l:List Pr) (hl:l.length≤100000) (hp:∀ p∈l,p.1.length≤140737488355328∧p.2.length≤140737488355328):PCall Tryz.prog 10 [.fsl st 2 (mv prV l)] (.tup [wdV (a3i l).1,.int .i64 (a3i l).2]):=by
 refine en10 (by simp) (by simp [a0b,V.closed,a0a a1m]) ?_;simp (disch:=omega) only [gG,simprocAttr,c10,mv_len];refine x_it l.length (fun k σ H => 4≤H.n∧H.m 0=some (.arr 4 [.agg [.int .i64 0,.int .i64 0,.fsl .nil 2 [],.fsl .nil 5 []]])∧(∃ s oD oR os,a5f ld0 (l.take k)=some s∧LdR 4 H.n H.m 3 1 2 s oD oR os∧LdOk s k∧LdB s∧s.bad=false) ∧
  σ=[(0,.fsl st 2 (mv prV l)),(2,.ptr 0 0 0),(4,.ptr 3 0 0),(13,.fsl st 2 (mv prV l)),(14,.int .i64 (l.length:Int)),(15,.int .i64 (k:Int))]) ⟨Nat.le_refl 4,(by simp (disch:=omega) only [a0d,a0c,wo_0,wo_1,wo_2]),⟨ld0,none,none,[],rfl,e8c (by simp (disch:=omega) only [a0d,a0c,wo_0,wo_1,wo_2]) (by simp (disch:=omega) only [a0d,a0c,wo_0,wo_1,wo_2]) (by simp (disch:=omega) only [a0d,a0c,wo_0,wo_1,wo_2]),d9b,e5a,rfl⟩,rfl⟩ ?_
 rintro T i σ ⟨n,m⟩ hii ⟨hn,e0,⟨s,oD,oR,os,hs,hR,hO,hB,hbf⟩,rfl⟩ hN hX hRt;simp only at hn e0 hR;by_cases hi:i < l.length
 ·have hpi:=hp _ (List.getElem_mem hi);obtain ⟨p,hpd⟩:∃ p,l[i]=p:=⟨_,rfl⟩;have htk:l.take (i+1)=l.take i++[p]:=by rw [List.take_succ_eq_append_getElem hi,hpd]
  rw [hpd] at hpi;simp (disch:=omega) only [gG,simprocAttr,show (i:Int) < l.length by omega,a0w hi,hpd,Int.toNat_natCast,b9m,prV];have n0:(0:Nat)≠n:=by omega
  have n3:(3:Nat)≠n:=by omega
  obtain ⟨m1,hm1⟩:∃ m1,upd (upd m n (some (.arr 2 [.agg [.str [],.str []]]))) n (some (.arr 2 [prV p]))=m1:=⟨_,rfl⟩;have ho:∀ id,id≠n→m1 id=m id:=fun id h => by rw [← hm1]; simp (disch:=exact h) only [a0c]
  have hR1:LdR 4 (n+1) m1 3 1 2 s oD oR os:=hR.congr (by omega) (ho 3 n3) (ho 1 (by omega)) (ho 2 (by omega)) fun i hi => ho i (by have:=hR.ids i hi; omega);obtain ⟨ds,kk,oD',oR',os',hcall,hR2,hL,hoth⟩:=d0q (H:=⟨n+1,m1⟩) (p:=p) hR1 ⟨hO.am,by have:=hO.runs; omega,by have:=hO.dags; omega,fun r hr => by have:=hO.states r hr; omega⟩ hbf (by omega) (by omega) (by omega) (by omega) (by omega) (by omega) (by show 4≤n+1; omega) hpi.1 hpi.2;rw [show (V.agg [V.str p.1,V.str p.2])=prV p from rfl,hm1];refine ⟨_,_,ds,kk,hcall, ?_⟩;rw [x_nx];refine ⟨by simp only [a0u], ?_⟩;simp only [] at hR2 hL hoth ⊢;generalize appd ds m1=m2 at hR2 hL hoth ⊢;have z2:m2 0=some (.arr 4 [.agg [.int .i64 0,.int .i64 0,.fsl .nil 2 [],.fsl .nil 5 []]]):=(hoth 0 (by omega) (by omega) (by omega) (by omega)).trans ((ho 0 n0).trans e0);have hL6:∃ a b c d,m2 3=some (.arr 7 [.agg [a,b,c,d,.map 1,.map 2,.bool (a3k s p).bad]]):=⟨_,_,_,_,hL⟩;obtain ⟨a',b',c',d',hL7⟩:=hL6;have hsn:=b3u (p:=p) hs;rw [← htk] at hsn;by_cases hbd:(a3k s p).bad=true
  ·rw [hbd] at hL7;rw [if_pos hbd] at hsn;have hno:a5f ld0 l=none:=by
    have:=b5i (l.drop (i+1)) hsn;rwa [List.take_append_drop] at this
   have hS:a3i l=(zW,4):=by unfold a3i; rw [hno]
   simp (disch:=omega) only [gG,simprocAttr,hL7,z2];refine hRt _ _ ?_;simp (disch:=omega) only [gG,simprocAttr]
   (refine a0e rfl ?_ ?_<;>simp [pack,lo,loL,V.closed,a0b,a0a,hS,wdV,zW,a9v])
  ·rw [eq_false_of_ne_true hbd] at hL7;rw [if_neg hbd] at hsn;simp (disch:=omega) only [gG,simprocAttr,hL7];have hb':=eq_false_of_ne_true hbd;exact hN _ _ hi ⟨by show 4≤n+1+kk; omega,z2,⟨_,oD',oR',os',hsn,hR2 hb',d3j hO p,d8f hB ⟨hO.am,by have:=hO.runs; omega,by have:=hO.dags; omega,fun r hr => by have:=hO.states r hr; omega⟩ (by have:=hpi.1; omega) hb',hb'⟩,rfl⟩
 ·obtain rfl:i=l.length:=by omega
  simp (disch:=omega) only [gG,simprocAttr,show ¬ (l.length:Int) < l.length by omega];refine hX _ _ _ ?_;simp (disch:=omega) only [gG,simprocAttr];refine c2c (idsL oD oR os) [3] ?_;rw [List.take_length] at hs;have hM:=ld_M hB ⟨hO.am,by have:=hO.runs; omega,by have:=hO.dags; omega,fun r hr => by have:=hO.states r hr; omega⟩;have hrr:=d2b (ldW s) hM;have i0:(0:Nat)∉idsL oD oR os:=fun h => by have:=hR.ids 0 h; omega
  have i3:(3:Nat)∉idsL oD oR os:=fun h => by have:=hR.ids 3 h; omega
  have cl:∀ v:V,v.closed=true→frzV (idsL oD oR os) m v=v:=fun v hv => by simp only [frzV,a1k hv]
  have pt:∀ a b c,frzV (idsL oD oR os) m (.ptr a b c)=.ptr a b c:=fun a b c => by simp [frzV,snap,V.closed]
  have d0:loH [3] (frzH (idsL oD oR os) m) 0=some (.arr 4 [.agg [.int .i64 0,.int .i64 0,.fsl .nil 2 [],.fsl .nil 5 []]]):=by
   simp [loH,frzH,i0,e0,frzO,cl (.agg [.int .i64 0,.int .i64 0,.fsl .nil 2 [],.fsl .nil 5 []]) rfl]
  have d3:loH [3] (frzH (idsL oD oR os) m) 3=some (.arr 7 [.agg [.int .i64 s.now,.int .i64 s.token,.fsl .loose 2 (mv dagV s.dags),.fsl .loose 5 (mv rnV s.runs),.map 1,.map 2,.bool s.bad]]):=by
   simp only [loH,frzH,i3,hR.box,frzO,List.map_cons,List.map_nil,e5u hR (fun i h => h),List.mem_singleton,if_true,if_false,loO,loL,e7r hR.len]
  simp only [frzS,pt,cl (.fsl st 2 (mv prV l)) (by simp [V.closed,a0a a1m]),cl (.int _ _) rfl,cl (.bool _) rfl];generalize loH [3] (frzH (idsL oD oR os) m)=m' at d0 d3 ⊢;by_cases hw:WR (ldW s)
  case neg =>
   rw [if_neg hw,if_neg hw] at hrr;have hS:a3i l=(zW,4):=by unfold a3i; rw [hs]; simp only []; rw [if_neg fun h => hw h.1]
   simp (disch:=omega) only [gG,simprocAttr,d3];refine ⟨_,hrr, ?_⟩;simp (disch:=omega) only [gG,simprocAttr,d0]
   (refine a0e rfl ?_ ?_<;>simp [pack,lo,loL,V.closed,a0b,a0a,hS,wdV,zW,a9v])
  rw [if_pos hw,if_pos hw] at hrr;have hln:=d4p hw;have heq:=d3d .loose st (b0e (ldW s)) l (by omega) (by omega);simp (disch:=omega) only [gG,simprocAttr,d3];refine ⟨_,hrr, ?_⟩;simp (disch:=omega) only [gG,simprocAttr,prsV];refine ⟨_,heq, ?_⟩;by_cases he:b0e (ldW s)=l
  ·have hS:a3i l=(ldW s,0):=by unfold a3i; rw [hs]; simp only []; rw [if_pos ⟨hw,he⟩]
   simp (disch:=omega) only [gG,simprocAttr,he,d0,d3]
   (refine a0e rfl ?_ ?_<;>simp [pack,lo,loL,V.closed,a0b,a0a,hS,wdV,ldW,a0a a0s,a0a a1h,a3e b5j,a3e c8j])
  ·have hS:a3i l=(zW,4):=by unfold a3i; rw [hs]; simp only []; rw [if_neg fun h => he h.2]
   simp (disch:=omega) only [gG,simprocAttr,he,d0]
   (refine a0e rfl ?_ ?_<;>simp [pack,lo,loL,V.closed,a0b,a0a,hS,wdV,zW,a9v])
end
section
open Go Go.RowKit
theorem b4c:∀ {l:List Pr} {s s':Ld} {N:Nat},a5f s l=some s'→LdOk s N→LdB s→N+l.length≤100000→(∀ p∈l,p.1.length≤4611686018427387904)→LdOk s' (N+l.length)∧LdB s'
 | [],s,s',N,h,h1,h2,_,_ => by simp only [a5f,Option.some.injEq] at h; subst h; exact ⟨h1,h2⟩
 | p::l,s,s',N,h,h1,h2,h3,h4 => by
  simp only [a5f] at h;simp only [List.length_cons] at h3 ⊢;split at h
  ·cases h
  ·rename_i c;have c':=eq_false_of_ne_true c;have hO:LdOk s 100000:=⟨h1.am,by have:=h1.runs; omega,by have:=h1.dags; omega,fun r hr => by have:=h1.states r hr; omega⟩;have:=b4c (N:=N+1) h (d3j h1 p) (d8f h2 hO (h4 p (by simp)) c') (by omega) fun q hq => h4 q (by simp [hq]);rw [show N+(l.length+1)=N+1+l.length by omega];exact this
theorem e4s (l:List Pr) (hl:l.length≤100000) (hp:∀ p∈l,p.1.length≤4611686018427387904):WdL (a3i l).1:=by
 unfold a3i;cases h:a5f ld0 l with
 | none => exact zW_M.L
 | some s =>
  obtain ⟨h1,h2⟩:=b4c h d9b e5a (by omega) hp;have hO:LdOk s 100000:=⟨h1.am,by have:=h1.runs; omega,by have:=h1.dags; omega,fun r hr => by have:=h1.states r hr; omega⟩;simp only [];split
  ·exact (ld_M h2 hO).L
  ·exact zW_M.L
theorem d6u:a3i []=(zW,0):=by
 unfold a3i;simp only [a5f];rw [if_pos]
 ·rfl
 ·exact ⟨e9k,by simp [b0e,a2s,ldW,ld0,a1l,c5u]⟩
noncomputable def wldQ (q:FndM×Int):Wd×Int :=
 if (telQ q).2.2≠0 then (zW,(telQ q).2.2) else if (a3i (telQ q).2.1).2≠0 then (zW,120) else ((a3i (telQ q).2.1).1,0)
theorem e5f {q:FndM×Int} (hq:q.2=0→FnO q.1):WdL (wldQ q).1:=by
 obtain ⟨h1,h2⟩:=c0b hq;unfold wldQ;split
 ·exact zW_M.L
 ·split
  ·exact zW_M.L
  ·exact e4s _ h2 fun p hp => by have:=h1.mem p hp; omega
theorem b4p (bl:List Str) (pe:List (Int×Str)) (h1:strL bl) (h2:∀ p∈pe,p.2.length≤140737488355328) (hb:bl.length≤1000000) (hp:pe.length≤1000000) :
  PCall Tryz.prog 7 [devV bl pe] (.tup [wdV (wldQ (mntS bl pe)).1,.int .i64 (wldQ (mntS bl pe)).2]):=by
 refine en7 (by simp) (by simp [a0b,V.closed,a0i,a0a a2c,devV]) ?_;have ht:=b4m bl pe h1 h2 hb hp;obtain ⟨k1,k2⟩:=c0b (q:=mntS bl pe) fun h => (c7a bl pe h).2.2.2;have hQ:wldQ (mntS bl pe)=if (telQ (mntS bl pe)).2.2≠0 then (zW,(telQ (mntS bl pe)).2.2) else if (a3i (telQ (mntS bl pe)).2.1).2≠0 then (zW,120) else ((a3i (telQ (mntS bl pe)).2.1).1,0):=rfl;rw [hQ];generalize telQ (mntS bl pe)=t at ht k1 k2 ⊢;clear hQ;obtain ⟨⟨⟨sg,sr,sm,sz⟩,slot,⟨b,nw,pages,root,gen⟩,ring⟩,l,e⟩:=t;have hl:=fun st => b9b st l k2 fun p hp => by have:=k1.mem p hp; omega
 generalize a3i l=w at hl ⊢;obtain ⟨⟨now,tok,dags,runs⟩,e2⟩:=w;have ht2:∀ a b:V,List.take 2 (List.drop 0 [a,b])=[a,b]:=fun _ _ => rfl;have ht4:∀ a b c d:V,List.take 4 (List.drop 0 [a,b,c,d])=[a,b,c,d]:=fun _ _ _ _ => rfl;simp only [devV,fnV] at ht;simp only [wdV] at hl;simp (disch:=omega) only [gG,simprocAttr,c7,devV,ht2];refine ⟨_,ht, ?_⟩;by_cases c0:e=0
 case neg =>
  simp (disch:=omega) only [gG,simprocAttr,c0]
  (refine a0e rfl ?_ ?_<;>simp [pack,lo,loL,V.closed,a0b,a0a,c0,wdV,zW,mv])
 subst c0;simp (disch:=omega) only [gG,simprocAttr];refine ⟨_,hl _, ?_⟩;by_cases c1:e2=0
 case neg =>
  simp (disch:=omega) only [gG,simprocAttr,c1]
  (refine a0e rfl ?_ ?_<;>simp [pack,lo,loL,V.closed,a0b,a0a,c1,wdV,zW,mv])
 subst c1;simp (disch:=omega) only [gG,simprocAttr,ht4]
 (refine a0e rfl ?_ ?_<;>simp [pack,lo,loL,V.closed,a0b,a0a,wdV,a0a a0s,a0a a1h,a3e b5j,a3e c8j])
def hV (l:List Int):V:=.agg (l.map fun n => .int .i64 n)
def h0L:List Int:=[0,0,0,0,0,0,0,0,0,0]
noncomputable def hltQ (q:FndM×Int):List Int×Int :=
 if (telQ q).2.2≠0 then (h0L,(telQ q).2.2) else if (a3i (telQ q).2.1).2≠0 then (h0L,120) else if (ckR (telQ q).1.w (telQ q).1.sp.m).2≠0 then (h0L,120) else
  ([(telQ q).1.sp.g,(telQ q).1.sp.r,(telQ q).1.sp.m,(telQ q).1.sp.z,(ckR (telQ q).1.w (telQ q).1.sp.m).1.1,(ckR (telQ q).1.w (telQ q).1.sp.m).1.2.1,(ckR (telQ q).1.w (telQ q).1.sp.m).1.2.2,(telQ q).1.ring.length,(a3i (telQ q).2.1).1.dags.length,(a3i (telQ q).2.1).1.runs.length],0)
theorem e2e (q:FndM×Int):∃ a b c d e f g h i j,(hltQ q).1=[a,b,c,d,e,f,g,h,i,j]:=by
 unfold hltQ h0L;split
 ·exact ⟨_,_,_,_,_,_,_,_,_,_,rfl⟩
 ·split
  ·exact ⟨_,_,_,_,_,_,_,_,_,_,rfl⟩
  ·split<;>exact ⟨_,_,_,_,_,_,_,_,_,_,rfl⟩
theorem e6b {q:FndM×Int} (h:(telQ q).2.2=0):(telQ q).1=q.1∧q.2=0:=by
 unfold telQ at h ⊢;split at h
 ·rename_i c; exact absurd h c
 rename_i c0;rw [if_neg c0];split at h
 ·simp at h
 rename_i c1;rw [if_neg c1];split at h
 ·simp at h
 rename_i c2;rw [if_neg c2];exact ⟨rfl,by simpa using c0⟩
theorem a9d (bl:List Str) (pe:List (Int×Str)) (h1:strL bl) (h2:∀ p∈pe,p.2.length≤140737488355328) (hb:bl.length≤1000000) (hp:pe.length≤1000000) :
  PCall Tryz.prog 8 [devV bl pe] (.tup [hV (hltQ (mntS bl pe)).1,.int .i64 (hltQ (mntS bl pe)).2]):=by
 refine en8 (by simp) (by simp [a0b,V.closed,a0i,a0a a2c,devV]) ?_;have ht:=b4m bl pe h1 h2 hb hp;obtain ⟨k1,k2⟩:=c0b (q:=mntS bl pe) fun h => (c7a bl pe h).2.2.2;have hpg:(telQ (mntS bl pe)).2.2=0→(telQ (mntS bl pe)).1.w.pages.length≤1000000:=fun h => by
  obtain ⟨q1,q2⟩:=e6b h;rw [q1];exact (c7a bl pe q2).2.2.2.pages
 have hQ:hltQ (mntS bl pe)=if (telQ (mntS bl pe)).2.2≠0 then (h0L,(telQ (mntS bl pe)).2.2) else if (a3i (telQ (mntS bl pe)).2.1).2≠0 then (h0L,120) else if (ckR (telQ (mntS bl pe)).1.w (telQ (mntS bl pe)).1.sp.m).2≠0 then (h0L,120) else
  ([(telQ (mntS bl pe)).1.sp.g,(telQ (mntS bl pe)).1.sp.r,(telQ (mntS bl pe)).1.sp.m,(telQ (mntS bl pe)).1.sp.z,(ckR (telQ (mntS bl pe)).1.w (telQ (mntS bl pe)).1.sp.m).1.1,(ckR (telQ (mntS bl pe)).1.w (telQ (mntS bl pe)).1.sp.m).1.2.1,(ckR (telQ (mntS bl pe)).1.w (telQ (mntS bl pe)).1.sp.m).1.2.2,(telQ (mntS bl pe)).1.ring.length,(a3i (telQ (mntS bl pe)).2.1).1.dags.length,(a3i (telQ (mntS bl pe)).2.1).1.runs.length],0):=rfl
 rw [hQ];generalize telQ (mntS bl pe)=t at ht k1 k2 hpg ⊢;clear hQ;obtain ⟨⟨⟨sg,sr,sm,sz⟩,slot,⟨b,nw,pages,root,gen⟩,ring⟩,l,e⟩:=t;have hl:=fun st => b9b st l k2 fun p hp => by have:=k1.mem p hp; omega
 have hck:=fun h => (b9a ⟨b,nw,pages,root,gen⟩ sm (hpg h)).1;simp only [] at hck hpg ⊢;generalize a3i l=w at hl ⊢;obtain ⟨⟨now,tok,dags,runs⟩,e2⟩:=w;generalize ckR ⟨b,nw,pages,root,gen⟩ sm=ck at hck ⊢;obtain ⟨⟨p1,p2,p3⟩,e3⟩:=ck;have ht2:∀ a b:V,List.take 2 (List.drop 0 [a,b])=[a,b]:=fun _ _ => rfl;have ht3:∀ a b c:V,List.take 3 (List.drop 0 [a,b,c])=[a,b,c]:=fun _ _ _ => rfl;have ht4:∀ a b c d:V,List.take 4 (List.drop 0 [a,b,c,d])=[a,b,c,d]:=fun _ _ _ _ => rfl;have ht5:∀ a b c d e f g h i j k:V,List.take 5 (List.drop 5 [a,b,c,d,e,f,g,h,i,j,k])=[f,g,h,i,j]:=fun _ _ _ _ _ _ _ _ _ _ _ => rfl;have ht4':∀ a b c d e f g h i j k:V,List.take 4 (List.drop 0 [a,b,c,d,e,f,g,h,i,j,k])=[a,b,c,d]:=fun _ _ _ _ _ _ _ _ _ _ _ => rfl;have ht10:∀ a b c d e f g h i j:V,List.take 10 (List.drop 0 [a,b,c,d,e,f,g,h,i,j])=[a,b,c,d,e,f,g,h,i,j]:=fun _ _ _ _ _ _ _ _ _ _ => rfl;have ht11:∀ a b c d e f g h i j k:V,List.take 11 (List.drop 0 [a,b,c,d,e,f,g,h,i,j,k])=[a,b,c,d,e,f,g,h,i,j,k]:=fun _ _ _ _ _ _ _ _ _ _ _ => rfl;simp only [devV,fnV] at ht;simp only [wdV] at hl;simp only [woV,woL,repV] at hck;simp (disch:=omega) only [gG,simprocAttr,c8,devV,ht2];refine ⟨_,ht, ?_⟩;by_cases c0:e=0
 case neg =>
  simp (disch:=omega) only [gG,simprocAttr,c0,ht10,ht11]
  (refine a0e rfl ?_ ?_<;>simp [pack,lo,loL,V.closed,a0b,a0a,c0,hV,h0L])
 subst c0;simp (disch:=omega) only [gG,simprocAttr,ht11];refine ⟨_,hl _, ?_⟩;by_cases c1:e2=0
 case neg =>
  simp (disch:=omega) only [gG,simprocAttr,c1,ht10]
  (refine a0e rfl ?_ ?_<;>simp [pack,lo,loL,V.closed,a0b,a0a,c1,hV,h0L])
 subst c1;simp (disch:=omega) only [gG,simprocAttr,ht4,ht5];refine ⟨_,hck rfl, ?_⟩;by_cases c2:e3=0
 case neg =>
  simp (disch:=omega) only [gG,simprocAttr,c2,ht10,ht3]
  (refine a0e rfl ?_ ?_<;>simp [pack,lo,loL,V.closed,a0b,a0a,c2,hV,h0L])
 subst c2;simp (disch:=omega) only [gG,simprocAttr,ht10,ht3,ht4',mv_len,a1a]
 (refine a0e rfl ?_ ?_<;>simp [pack,lo,loL,V.closed,a0b,a0a,hV])
end
section
open Go Go.RowKit
theorem c0d (bl:List Str) (pe:List (Int×Str)):PCall Tryz.prog 5 [devV bl pe] (.bool (decide ((bl.length:Int)≤200) && decide ((pe.length:Int)≤200))):=by
 refine en5 (by simp) (by simp [a0b,V.closed,a0i,a0a a2c,devV]) ?_;have ht2:∀ a b:V,List.take 2 (List.drop 0 [a,b])=[a,b]:=fun _ _ => rfl;simp (disch:=omega) only [gG,simprocAttr,c5,devV,ht2,a1a,mv_len];refine ⟨fun c => ?_,fun c => ?_⟩<;>(refine a0e rfl ?_ ?_<;>simp [pack,lo,loL,V.closed,a0b,a0a,c])
theorem e4z (a b c d e f g h i j:Int):eqF [0,0,0,0,0,0,0,0,0,0] [.int .i64 a,.int .i64 b,.int .i64 c,.int .i64 d,.int .i64 e,.int .i64 f,.int .i64 g,.int .i64 h,.int .i64 i,.int .i64 j] [.int .i64 a,.int .i64 b,.int .i64 c,.int .i64 d,.int .i64 e,.int .i64 f,.int .i64 g,.int .i64 h,.int .i64 i,.int .i64 j]=some true:=by simp [eqF]
theorem e8l:hltQ (mntS fmt24 [])=([1,0,10,24,0,0,0,0,0,0],0):=by
 unfold hltQ;rw [e4j];rw [if_neg (by simp)];simp only [];rw [d6u,if_neg (by simp)];obtain ⟨h1,h2⟩:=(b9a W24 10 (by decide)).2.2 b2y;rw [h1,h2,if_neg (by simp)];rfl
theorem d1a:strL fmt24:=by
 have h:fmt24.all (fun s => decide (s.length≤140737488355328))=true:=by kernel_rfl
 intro s hs;have:=List.all_eq_true.1 h s hs;simpa using this
theorem b9r:PCall Tryz.prog 6 [] (.bool true):=by
 refine en6 (by simp) (by simp [a0b]) ?_;have hf:=b8i;have hc:=a9d fmt24 [] d1a (by simp) (by decide) (by simp);rw [e8l] at hc;have ht2:∀ a b:V,List.take 2 (List.drop 0 [a,b])=[a,b]:=fun _ _ => rfl;have ht10:∀ a b c d e f g h i j:V,List.take 10 (List.drop 0 [a,b,c,d,e,f,g,h,i,j])=[a,b,c,d,e,f,g,h,i,j]:=fun _ _ _ _ _ _ _ _ _ _ => rfl;simp only [hV,List.map_cons,List.map_nil,devV] at hf hc;generalize fmt24=f24 at hf hc;simp (disch:=omega) only [gG,simprocAttr,c6];refine ⟨_,hf, ?_⟩;simp (disch:=omega) only [gG,simprocAttr,ht2];refine ⟨_,hc, ?_⟩;simp (disch:=omega) only [gG,simprocAttr,ht10,e4z]
 (refine a0e rfl ?_ ?_<;>simp [pack,lo,loL,V.closed,a0b,a0a])
end
section
open Go Go.RowKit
theorem c8q {a n:Int} (h:0 < n):-n < a.tmod n∧a.tmod n < n:=⟨by have:=Int.lt_tmod_of_pos a h; omega,Int.tmod_lt_of_pos a h⟩
set_option maxHeartbeats 4000000 in
theorem d4z (bl:List Str) (pe:List (Int×Str)) (k:Int) (junk:Str) (h1:strL bl) (h2:∀ p∈pe,p.2.length≤140737488355328) (hk:-9223372036854775808≤k∧k≤9223372036854775807) (hj:junk.length≤140737488355328) :
  PCall Tryz.prog 4 [devV bl pe,.int .i64 k,.str junk] (.bool true):=by
 refine en4 (by simp) (by simp [a0b,V.closed,a0i,a0a a2c,devV]) ?_;have hal:=b9r;have hsm:=c0d bl pe;have ht2:∀ a b:V,List.take 2 (List.drop 0 [a,b])=[a,b]:=fun _ _ => rfl;have ht4:∀ a b c d:V,List.take 4 (List.drop 0 [a,b,c,d])=[a,b,c,d]:=fun _ _ _ _ => rfl;have ht10:∀ a b c d e f g h i j:V,List.take 10 (List.drop 0 [a,b,c,d,e,f,g,h,i,j])=[a,b,c,d,e,f,g,h,i,j]:=fun _ _ _ _ _ _ _ _ _ _ => rfl;have ht11:∀ a b c d e f g h i j k:V,List.take 11 (List.drop 0 [a,b,c,d,e,f,g,h,i,j,k])=[a,b,c,d,e,f,g,h,i,j,k]:=fun _ _ _ _ _ _ _ _ _ _ _ => rfl;by_cases c0:bl.length≤200∧pe.length≤200
 case neg =>
  have e:(decide ((bl.length:Int)≤200) && decide ((pe.length:Int)≤200))=false:=by
   rw [Bool.and_eq_false_iff]; simp; omega
  rw [e] at hsm;simp only [devV] at hsm;simp (disch:=omega) only [gG,simprocAttr,c4,devV,ht2];refine ⟨_,hsm, ?_⟩;simp (disch:=omega) only [gG,simprocAttr];refine ⟨_,hal, ?_⟩;simp (disch:=omega) only [gG,simprocAttr]
  (refine a0e rfl ?_ ?_<;>simp [pack,lo,loL,V.closed,a0b,a0a,a0g,a0p])
 obtain ⟨b1,b2⟩:=c0;have e:(decide ((bl.length:Int)≤200) && decide ((pe.length:Int)≤200))=true:=by simp; omega
 rw [e] at hsm;by_cases c1:4096 < junk.length
 ·simp only [devV] at hsm;simp (disch:=omega) only [gG,simprocAttr,c4,devV,ht2];refine ⟨_,hsm, ?_⟩;simp (disch:=omega) only [gG,simprocAttr,show (4096:Int) < junk.length by omega];refine ⟨_,hal, ?_⟩;simp (disch:=omega) only [gG,simprocAttr]
  (refine a0e rfl ?_ ?_<;>simp [pack,lo,loL,V.closed,a0b,a0a,a0g,a0p])
 have hm:=b2i bl pe h1 h2 (by omega) (by omega);have hn:=c7a bl pe;have hset:=fun (a:Nat) (x:Str) => @e1t bl a x;have hw:=b4p bl pe h1 h2 (by omega) (by omega);have hc:=a9d bl pe h1 h2 (by omega) (by omega);have hinv:=@d0c bl pe;have hQ:=fun h => e5f (q:=mntS bl pe) h;have hw2:=fun (bl':List Str) (h1':strL bl') (hb':bl'.length≤1000000) => b4p bl' [] h1' (by simp) hb' (by simp);have hc2:=fun (bl':List Str) (h1':strL bl') (hb':bl'.length≤1000000) => a9d bl' [] h1' (by simp) hb' (by simp);by_cases c2:(mntS bl pe).2=0
 case neg =>
  generalize mntS bl pe=q at hm c2;obtain ⟨⟨⟨sg,sr,sm,sz⟩,slot,⟨b,nw,pages,root,gen⟩,ring⟩,e⟩:=q;simp only [] at c2;simp only [devV,fnV] at hsm hm;simp (disch:=omega) only [gG,simprocAttr,c4,devV,ht2];refine ⟨_,hsm, ?_⟩;simp (disch:=omega) only [gG,simprocAttr,show ¬ (4096:Int) < junk.length by omega,ht2];refine ⟨_,hm, ?_⟩;simp (disch:=omega) only [gG,simprocAttr,c2,ht11];refine ⟨_,hal, ?_⟩;simp (disch:=omega) only [gG,simprocAttr]
  (refine a0e rfl ?_ ?_<;>simp [pack,lo,loL,V.closed,a0b,a0a,a0g,a0p])
 obtain ⟨rfl,c,now,d1,d2,d3,d4,d5,d6,d7,d8,d9⟩:=hinv c2;obtain ⟨n1,n2,n3,n4⟩:=hn c2;have hq:=hQ fun _ => n4;have hbl:∀ x∈bl,x.length≤4096:=fun x hx => by
  have:bl.all a4i=true:=by simp [a2u] at d1; simpa using d1.2.2
  have:=List.all_eq_true.1 this x hx;simp [a4i] at this;omega
 have hwr:=fun (b:Int) (g0:0≤b) (g1:b < bl.length) => c6q bl b junk h1 (by omega) d1 g0 g1 (by omega);have hfl:=fun (a:Nat) (ha:a < bl.length) (hd:a2u bl [((a:Int),a4j junk)]=true) => c8w bl a (a4j junk) (fun x hx => by have:=hbl x hx; omega) (by omega) ha (by have:=a8r junk; omega) hd;generalize mntS bl []=q at hm c2 hset hw hc hq n1;obtain ⟨⟨⟨sg,sr,sm,sz⟩,slot,⟨b,nw,pages,root,gen⟩,ring⟩,e⟩:=q;simp only [] at c2 n1 hset;subst c2;obtain ⟨N,hN⟩:∃ N,bl.length=N:=⟨_,rfl⟩;rw [hN] at n1 n2 n3 b1;obtain ⟨r,hr⟩:∃ r,k.tmod ((N:Int) - 10)=r:=⟨_,rfl⟩;have hr1:=c8q (a:=k) (n:=(N:Int) - 10) (by omega);rw [hr] at hr1;obtain ⟨s,hs⟩:∃ s,(r+N - 10).tmod ((N:Int) - 10)=s:=⟨_,rfl⟩;have hs1:=c8q (a:=r+N - 10) (n:=(N:Int) - 10) (by omega);have hs2:0≤(r+N - 10).tmod ((N:Int) - 10):=Int.tmod_nonneg _ (by omega);rw [hs] at hs1 hs2;have hs':(r+N - 10) % ((N:Int) - 10)=s:=by rw [← hs]; exact (Int.tmod_eq_emod_of_nonneg (by omega)).symm
 obtain ⟨a,ha⟩:∃ a:Nat,10+s=a:=⟨(10+s).toNat,by omega⟩;have ha1:10≤a∧a < N:=by omega
 have w1:IntKind.i64.wrap ((N:Int) - 10)=N - 10:=a2w (by omega) (by omega);have w2:IntKind.i64.wrap (r+N)=r+N:=a2w (by omega) (by omega);have w3:IntKind.i64.wrap (r+N - 10)=r+N - 10:=a2w (by omega) (by omega);have w4:IntKind.i64.wrap (10+s)=a:=by rw [ha]; exact a2w (by omega) (by omega)
 have hna:a < nw.length:=by omega
 have hga:(bv nw)[a]?=some (.bool nw[a]):=by simp [bv,mv,hna]
 simp only [devV,fnV] at hsm hm;simp (disch:=omega) only [gG,simprocAttr,c4,devV,ht2];refine ⟨_,hsm, ?_⟩;simp (disch:=omega) only [gG,simprocAttr,show ¬ (4096:Int) < junk.length by omega,ht2];refine ⟨_,hm, ?_⟩;simp (disch:=omega) only [gG,simprocAttr,ht11,a1a,hN,show ¬ (N:Int)≤10 by omega,a2p,n1,w1,hr,w2,w3,hs,hs',w4,hga,Int.toNat_natCast];refine ⟨by omega,by omega, ?_⟩;cases hna':nw[a] with
 | true =>
  simp (disch:=omega) only [gG,simprocAttr,hna'];refine ⟨_,hal, ?_⟩;simp (disch:=omega) only [gG,simprocAttr]
  (refine a0e rfl ?_ ?_<;>simp [pack,lo,loL,V.closed,a0b,a0a,a0g,a0p])
 | false =>
  obtain ⟨aI,haI⟩:∃ aI:Int,(a:Int)=aI:=⟨_,rfl⟩;have hw0:=hwr a (by omega) (by omega);have hdv:a2u bl [((a:Int),a4j junk)]=true:=by
   have hjl:=a8r junk;have ht:=b4q junk;simp only [a2u,Bool.and_eq_true,decide_eq_true_eq] at d1 ⊢;obtain ⟨q1,q2,q3,q4,q5⟩:=d1;refine ⟨q1,q2,by simp,q4, ?_⟩;simp [b3i,a4i,ht];omega
  obtain ⟨_,hfl',mm,rfl,hmm⟩:=hfl a (by omega) hdv;have hst:=hset a mm rfl ha1.1 (by omega) (by simp [List.getD_eq_getElem?_getD,hna,hna']) hmm;have hmml:mm.length≤140737488355328:=by simp [a4i] at hmm; omega
  have hbl':strL (bl.set a mm):=fun s hs => by
   rcases List.mem_or_eq_of_mem_set hs with hs | rfl
   ·exact h1 s hs
   ·exact hmml
  have hw3:=hw2 (bl.set a mm) hbl' (by simp; omega);have hc3:=hc2 (bl.set a mm) hbl' (by simp; omega);rw [hst] at hw3 hc3;obtain ⟨x1,x2,x3,x4,x5,x6,x7,x8,x9,x10,hx⟩:=e2e (⟨⟨sg,sr,sm,sz⟩,slot,⟨b,nw,pages,root,gen⟩,ring⟩,0);rw [hx] at hc hc3;generalize (hltQ (⟨⟨sg,sr,sm,sz⟩,slot,⟨b,nw,pages,root,gen⟩,ring⟩,0)).2=he at hc hc3;generalize wldQ (⟨⟨sg,sr,sm,sz⟩,slot,⟨b,nw,pages,root,gen⟩,ring⟩,0)=wq at hw hw3 hq;obtain ⟨⟨now',tok,dags,runs⟩,we⟩:=wq;have hlk:=e2f ⟨now',tok,dags,runs⟩ ⟨now',tok,dags,runs⟩ hq hq;simp only [devV,wdV,hV,List.map_cons,List.map_nil,decide_true] at hw0 hfl' hw hw3 hc hc3 hlk;simp (disch:=omega) only [gG,simprocAttr,hna',ht2];refine ⟨_,hw0, ?_⟩;simp (disch:=omega) only [gG,simprocAttr,ht2];refine ⟨_,hfl', ?_⟩;simp (disch:=omega) only [gG,simprocAttr,ht2];refine ⟨_,hw, ?_⟩;simp (disch:=omega) only [gG,simprocAttr,ht2,ht4];refine ⟨_,hw3, ?_⟩;simp (disch:=omega) only [gG,simprocAttr,ht2,ht4];refine ⟨_,hc, ?_⟩;simp (disch:=omega) only [gG,simprocAttr,ht2,ht10];refine ⟨_,hc3, ?_⟩;simp (disch:=omega) only [gG,simprocAttr,ht10];refine ⟨_,hal, ?_⟩;simp (disch:=omega) only [gG,simprocAttr,ht4,ht10,e4z,beq_self_eq_true];refine ⟨_,hlk, ?_⟩;simp (disch:=omega) only [gG,simprocAttr]
  (refine a0e rfl ?_ ?_<;>simp [pack,lo,loL,V.closed,a0b,a0a,a0g,a0p])
end
def tI:Ty:=.i .i64
theorem e7v {vs:List V} (h:TyV tI vs):∃ n,vs=[.int .i64 n]∧-9223372036854775808≤n∧n≤9223372036854775807:=h
def tWrt:Ty:=.st (.cons tI (.cons .s .nil))
def tDev:Ty:=.st (.cons (.l 1 16 .s) (.cons (.l 2 24 tWrt) .nil))
theorem e4h {vs:List V} (h:TyV .s vs):∃ s,vs=[.str s]∧s.length≤140737488355328:=by
 obtain ⟨s,h1,h2⟩:=h;exact ⟨s,h1,Nat.le_trans h2 (by decide)⟩
theorem e9t {vs:List V} (h:TyV tDev vs):∃ d:List Str×List (Int×Str),vs=[.fsl .loose 1 (vS d.1),.fsl .loose 2 (mv wrVG d.2)]∧strL d.1∧∀ p∈d.2,p.2.length≤140737488355328:=by
 obtain ⟨u1,w1,rfl,h1,u2,w2,rfl,h2,rfl⟩:=h;obtain ⟨l,rfl,_,q1⟩:=c6c (e:=.s) (f:=V.str) (q:=fun s => s.length≤140737488355328) (fun us hu => by
  obtain ⟨s,rfl,hs⟩:=e4h hu;exact ⟨s,rfl,hs⟩) h1
 obtain ⟨m,rfl,_,q2⟩:=c6c (e:=tWrt) (f:=wrVG) (q:=fun p:Int×Str => p.2.length≤140737488355328) (fun us hu => by
  obtain ⟨u1,w1,rfl,g1,u2,w2,rfl,g2,rfl⟩:=hu;obtain ⟨a,rfl,_⟩:=e7v g1;obtain ⟨s,rfl,hs⟩:=e4h g2;exact ⟨(a,s),rfl,hs⟩) h2
 exact ⟨(l,m),rfl,q1,q2⟩
theorem e7c (d:List Str×List (Int×Str)) (k:Int) (s:Str) (h1:strL d.1) (h2:∀ p∈d.2,p.2.length≤140737488355328) (hk:-9223372036854775808≤k∧k≤9223372036854775807) (hs:s.length≤140737488355328) :
  PCall Tryz.prog 4 [.agg [.fsl .loose 1 (vS d.1),.fsl .loose 2 (mv wrVG d.2)],.int .i64 k,.str s] (.bool true):=d4z d.1 d.2 k s h1 h2 hk hs
end Go.Proofs.YtgdhbegaejmljaaGreatDoor.Ev
