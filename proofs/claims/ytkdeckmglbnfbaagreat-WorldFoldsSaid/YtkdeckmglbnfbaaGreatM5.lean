/-
  Part 5 of what the proof of the statement WorldFolds leans on: the evaluator, the functions in compact form, and what they answer.
-/
import Derived.Test.YtkdeckmglbnfbaaGreatM4
import Derived.Test.YtkdeckmglbnfbaaGreatProg
import Derived.KernelRfl
import Derived.Lib.Overlaps
import Derived.ChangeKeysEq
set_option linter.unusedSimpArgs false
set_option linter.unusedVariables false
set_option maxRecDepth 10000
namespace Go.Proofs.YtkdeckmglbnfbaaGreat.Ev
open Go
section
def a5z (l:List Rn):V:=.agg [.fsl .loose 5 (mv rnV l),.fn 112 [] []]
def a1k (l:List Rn):List Str:=l.map (·.key)
theorem a5g (l:List Rn):(a5z l).closed=true:=by simp [a5z,V.closed,a0b,a0a a0g]
theorem a2x (l:List Rn):(a1k l).length=l.length:=by simp [a1k]
theorem a6p {l:List Rn} {i:Nat} (h:i < (a1k l).length):(a1k l)[i]=(l[i]'(by rwa [a2x] at h)).key:=by simp [a1k]
theorem a1e (d:Rn):getC (some 5) 0 (rnV d)=some (rnV d):=rfl
theorem b1s (d:Rn):PCall Tryz.prog 112 [rnV d] (.str d.key):=by
  refine en112 (by simp) (by simp [a0b,a0g]) ?_
  simp (maxSteps:=1000000) (disch:=omega) only [rg,gD,simprocAttr,c112,rnV,a0h,a0j]
  (refine a0f rfl ?_ ?_<;>simp [pack,lo,loL,V.closed,a0b,a0a])
theorem a7s (w:Wd):PCall Tryz.prog 50 [wdV w] (a5z w.runs):=by
  refine en50 (by simp) (by simp [a0b,a1n]) ?_
  simp (maxSteps:=1000000) (disch:=omega) only [rg,gD,simprocAttr,c50,wdV]
  (refine a0f rfl ?_ ?_<;>simp [pack,lo,loL,V.closed,a0b,a0a,a5z,a0l a1i,a0a a0g])
open Classical in
theorem c5m (l:List Rn) (hl:l.length≤1000000):PCall Tryz.prog 51 [a5z l] (.bool (decide (Rise (a1k l)))):=by
  refine en51 (by simp) (by simp [a0b,a5g]) ?_
  simp (maxSteps:=1000000) (disch:=omega) only [rg,gD,simprocAttr,c51,a5z]
  refine x_it l.length (fun k σ H => 1≤H.n∧H.m 0=some (.arr 2 [a5z l])∧(∀ i (h:i+1 < (a1k l).length),i < k→ltS (a1k l)[i] (a1k l)[i+1]=true)∧σ=[(1,.ptr 0 0 0),(3,.int .i64 ((k:Int)+1))]) ⟨Nat.le_refl 1,by simp [upd,a5z],by intro i h hi; omega,by simp⟩ ?_
  rintro T k σ ⟨n,m⟩ hkk ⟨hn,e0,hs,rfl⟩ hN hX hR
  simp only at hn e0
  unfold a5z at e0
  by_cases hk:k+1 < l.length
  · have hk0:k < l.length:=by omega
    have c1:=b1s l[k+1]
    have c0:=b1s l[k]
    have hlt:k+1 < (a1k l).length:=by rw [a2x]; exact hk
    have ht1:((k:Int)+1).toNat=k+1:=by omega
    have ht0:((k:Int)+1 - 1).toNat=k:=by omega
    have hsub:(k:Int)+1 - 1=k:=by omega
    simp (maxSteps:=1000000) (disch:=omega) only [rg,gD,simprocAttr,e0,a0k,show (k:Int)+1 < l.length by omega,ht1,a0m hk,a0m hk0,a1e]
    refine ⟨by omega,_,_,_,_,c1.toA _ [], ?_⟩
    simp (maxSteps:=1000000) (disch:=omega) only [rg,gD,simprocAttr,e0,hsub,Int.toNat_natCast,a0m hk0,a1e]
    refine ⟨by simp [a1h,disj,nthL],by simp [a1h,disj,nthL],by simp [a1h,disj,nthL],by simp [a1h,disj,nthL],_,_,_,_,c0.toA _ [], ?_⟩
    simp (maxSteps:=1000000) (disch:=omega) only [rg,gD,simprocAttr,b4p]
    have hg:ltS (a1k l)[k] (a1k l)[k+1]=ltS l[k].key l[k+1].key:=by simp [a1k]
    cases hc:ltS l[k].key l[k+1].key with
    | false =>
      rw [hc] at hg
      simp (maxSteps:=1000000) (disch:=omega) only [rg,gD,simprocAttr]
      refine hR _ _ ?_
      (refine a0f rfl ?_ ?_<;>simp [pack,lo,loL,V.closed,a0b,a0a,decide_eq_false (fun e:Rise (a1k l) => by rw [e k hlt] at hg; cases hg)])
    | true =>
      rw [hc] at hg
      simp (maxSteps:=1000000) (disch:=omega) only [rg,gD,simprocAttr]
      refine hN _ _ (by omega) ⟨hn,e0,fun i h hi => ?_,by simp⟩
      by_cases e:i=k
      · subst e; exact hg
      · exact hs i h (by omega)
  · simp (maxSteps:=1000000) (disch:=omega) only [rg,gD,simprocAttr,e0,a0k,show ¬ (k:Int)+1 < l.length by omega]
    refine hX _ _ _ ?_
    simp (maxSteps:=1000000) (disch:=omega) only [rg,gD,simprocAttr]
    refine a0s ?_
    simp (maxSteps:=1000000) (disch:=omega) only [rg,gD,simprocAttr]
    (refine a0f rfl ?_ ?_<;>simp [pack,lo,loL,V.closed,a0b,a0a,decide_eq_true (show Rise (a1k l) from fun i h => hs i h (by rw [a2x] at h; omega))])
theorem b9w (H:Hp) (b:Nat) (d:Rn) (t:Str) (l:List Rn) (hb:b < H.n) (hx:H.m b=some (.arr 2 [a5z l])) :
    ACall Tryz.prog 199 [rnV d,.str t,.ptr b 0 0] H [b] (.int .i64 (cmpS d.key t)) [] 1:=by
  refine ena199 (by simp) (by simp [lowL,V.low,hb,V.low_closed _ (a0g d)]) (fun id hid => ?_) (by simp) ?_
  · simp at hid; subst hid
    exact ⟨hb,fun o ho => by rw [hx] at ho; simp at ho; subst ho; simp [Ob.low,lowL,V.low_closed _ (a5g l)]⟩
  have q1:only [b] H.m b=some (.arr 2 [a5z l]):=by simp [only,hx]
  unfold a5z at q1
  have c0:=b1s d
  have c1:=c4q d.key t
  simp (maxSteps:=1000000) (disch:=omega) only [rg,gD,simprocAttr,c199,q1,rnV,a0h,a0j]
  refine ⟨_,_,_,_,c0.toA _ [], ?_⟩
  simp (maxSteps:=1000000) (disch:=omega) only [rg,gD,simprocAttr]
  refine ⟨_,c1, ?_⟩
  simp (maxSteps:=1000000) (disch:=omega) only [rg,gD,simprocAttr]
  refine a1v (l:=[.int .i64 (cmpS d.key t)]) rfl (.inl rfl) (by simp only []; omega) (fnC hb fun id hid => (by simp (disch:=omega) only [a0d,a0c,wo_0,wo_1,wo_2]))
open Classical in
theorem b1y (H:Hp) (b:Nat) (t:Str) (l:List Rn) (hl:l.length≤1000000) (hr:Rise (a1k l)) (hb:b < H.n) (hx:H.m b=some (.arr 2 [a5z l])) :
    ACall Tryz.prog 198 [.fsl .loose 5 (mv rnV l),.str t,.fn 199 [] [.ptr b 0 0]] H [b] (.tup [.int .i64 (lbS t (a1k l):Nat),.bool (decide (t∈a1k l))]) [] (l.length+1):=by
  refine ena198 (by simp) (by simp [lowL,V.low,hb,a1g _ (a0a a0g)]) (fun id hid => ?_) (by simp) ?_
  · simp at hid; subst hid
    exact ⟨hb,fun o ho => by rw [hx] at ho; simp at ho; subst ho; simp [Ob.low,lowL,V.low_closed _ (a5g l)]⟩
  have qb:only [b] H.m b=some (.arr 2 [a5z l]):=by simp [only,hx]
  have fnb:∀ m',m'=only [b] H.m→∀ id,appd [] (only [b] H.m) id=none∨appd [] (only [b] H.m) id=m' id:=fun m' e id => by subst e; exact .inr rfl
  generalize hm0:only [b] H.m=m0 at qb fnb ⊢
  generalize hN0:H.n=N at hb ⊢
  have hnl:=a2x l
  simp (maxSteps:=1000000) (disch:=omega) only [rg,gD,simprocAttr,c198,a0k]
  refine x_it l.length (fun k σ H' => N≤H'.n∧H'.n≤N+k∧H'.m=m0∧∃ i j:Nat,i≤j∧j≤l.length∧j - i+k≤l.length∧(∀ q (h:q < (a1k l).length),q < i→ltS (a1k l)[q] t=true)∧(∀ q (h:q < (a1k l).length),j≤q→ltS (a1k l)[q] t=false) ∧
    σ=[(0,.fsl .loose 5 (mv rnV l)),(1,.str t),(2,.fn 199 [] [.ptr b 0 0]),(8,.int .i64 (l.length:Int)),(9,.int .i64 (i:Int)),(10,.int .i64 (j:Int))]) ⟨Nat.le_refl N,by simp,rfl,0,l.length,by omega,by omega,by omega,by intro q h hq; omega,by intro q h hq; omega,rfl⟩ ?_
  rintro T k σ ⟨n,m⟩ hkk ⟨hn,hn2,rfl,i,j,hij,hjl,hk3,hlo,hhi,rfl⟩ hN hX hR
  simp only at hn hn2
  by_cases hlt:i < j
  · have hmid:=c3u hlt (by omega:j≤1000000)
    obtain ⟨h,hh⟩:∃ h,h=(i+j) / 2:=⟨_,rfl⟩
    rw [← hh] at hmid
    have hhl:h < l.length:=by omega
    have hc:=b9w ⟨n,m⟩ b l[h] t l (by simp only []; omega) qb
    have hg:ltS (a1k l)[h] t=ltS l[h].key t:=by simp [a1k]
    have hcl:=c4f l[h].key t
    simp (maxSteps:=1000000) (disch:=omega) only [rg,gD,simprocAttr,show (i:Int) < (j:Int) by omega,hmid,Int.toNat_natCast,a0m hhl,a1e]
    refine ⟨_,_,_,_,hc, ?_⟩
    have ups:∀ i' j':Nat,i'≤j'→j'≤l.length→j' - i'+(k+1)≤l.length→(∀ q (h:q < (a1k l).length),q < i'→ltS (a1k l)[q] t=true)→(∀ q (h:q < (a1k l).length),j'≤q→ltS (a1k l)[q] t=false) →
        ∀ σ',σ'=[(0,.fsl .loose 5 (mv rnV l)),(1,.str t),(2,.fn 199 [] [.ptr b 0 0]),(8,.int .i64 (l.length:Int)),(9,.int .i64 (i':Int)),(10,.int .i64 (j':Int))]→T .norm σ' ⟨n+1,m⟩:=fun i' j' a1 a2 a3 a4 a5 σ' e => hN _ _ (by omega) ⟨by simp only []; omega,by simp only []; omega,rfl,i',j',a1,a2,a3,a4,a5,e⟩
    cases hlv:ltS l[h].key t with
    | true =>
      rw [hlv] at hg
      simp (maxSteps:=1000000) (disch:=omega) only [rg,gD,simprocAttr,show cmpS l[h].key t < 0 from hcl.2 hlv]
      refine ups (h+1) j (by omega) hjl (by omega) (fun q hq hqh => ?_) hhi _ (by simp)
      by_cases e:q=h
      · subst e; exact hg
      · exact a4b (a4d hr h q (by omega) (by omega)) hg
    | false =>
      rw [hlv] at hg
      simp (maxSteps:=1000000) (disch:=omega) only [rg,gD,simprocAttr,show ¬ cmpS l[h].key t < 0 from fun e => by rw [hcl.1 e] at hlv; cases hlv]
      refine ups i h (by omega) (by omega) (by omega) hlo (fun q hq hqh => ?_) _ (by simp)
      by_cases e:q=h
      · subst e; exact hg
      · have:=a4d hr q h hq (by omega)
        cases k:ltS (a1k l)[q] t with
        | false => rfl
        | true => have:=a4b this k; rw [hg] at this; cases this
  · obtain rfl:i=j:=by omega
    have hlb:IsLb (a1k l) t i:=⟨by omega,fun q hq h => hlo q hq h,fun q hq h => hhi q hq h⟩
    have hmem:=hlb.mem hr
    have heq:=hlb.eq
    simp (maxSteps:=1000000) (disch:=omega) only [rg,gD,simprocAttr,Int.lt_irrefl]
    refine hX _ _ _ ?_
    simp (maxSteps:=1000000) (disch:=omega) only [rg,gD,simprocAttr]
    refine a0s ?_
    by_cases hil:i < l.length
    · have hc:=b9w ⟨n,m⟩ b l[i] t l (by simp only []; omega) qb
      have hce:=c4a l[i].key t
      have hm2:t∈a1k l↔l[i].key=t:=by rw [hmem]; exact ⟨fun ⟨_,e⟩ => by simpa [a1k] using e,fun e => ⟨by omega,by simpa [a1k] using e⟩⟩
      simp (maxSteps:=1000000) (disch:=omega) only [rg,gD,simprocAttr,show (i:Int) < (l.length:Int) by omega,Int.toNat_natCast,a0m hil,a1e]
      refine ⟨_,_,_,_,hc, ?_⟩
      by_cases he:l[i].key=t
      · simp (maxSteps:=1000000) (disch:=omega) only [rg,gD,simprocAttr,eq_true (hce.2 he)]
        refine a1v (l:=[.int .i64 (i:Int),.bool true]) rfl (.inl (by rw [← heq,decide_eq_true (hm2.2 he)]; rfl)) (by simp only []; omega) (fnb _ rfl)
      · simp (maxSteps:=1000000) (disch:=omega) only [rg,gD,simprocAttr,eq_false (fun e => he (hce.1 e))]
        refine a1v (l:=[.int .i64 (i:Int),.bool false]) rfl (.inl (by rw [← heq,decide_eq_false (fun e => he (hm2.1 e))]; rfl)) (by simp only []; omega) (fnb _ rfl)
    · simp (maxSteps:=1000000) (disch:=omega) only [rg,gD,simprocAttr,show ¬ (i:Int) < (l.length:Int) by omega]
      refine a1v (l:=[.int .i64 (i:Int),.bool false]) rfl (.inl (by rw [← heq,decide_eq_false (fun e => by obtain ⟨h1,_⟩:=hmem.1 e; omega)]; rfl)) (by simp only []; omega) (fnb _ rfl)
open Classical in
theorem b2z (t:Str) (l:List Rn) (hl:l.length≤1000000) (hr:Rise (a1k l)):PCall Tryz.prog 149 [a5z l,.str t] (.tup [.int .i64 (lbS t (a1k l):Nat),.bool (decide (t∈a1k l))]):=by
  refine en149 (by simp) (by simp [a0b,V.closed,a5g]) ?_
  have hs:=fun H hx => b1y H 0 t l hl hr hx
  simp (maxSteps:=1000000) (disch:=omega) only [rg,gD,simprocAttr,c149,a5z]
  refine ⟨_,_,_,_,b1y _ 0 t l hl hr (by simp) (by simp [upd,a5z]), ?_⟩
  simp (maxSteps:=1000000) (disch:=omega) only [rg,gD,simprocAttr]
  (refine a0f rfl ?_ ?_<;>simp [pack,lo,loL,V.closed,a0b,a0a])
end
structure WdOk (w:Wd):Prop where
  dags:w.dags.length≤1000
  runs:w.runs.length≤1000
  dag:∀ d∈w.dags,a2w d
  run:∀ r∈w.runs,RnOk r
def Tk (tok:Int) (l:List Int):Prop:=(∀ t∈l,t≤tok)∧(l.filter fun t => decide (0 < t)).Nodup
theorem Tk.nil (tok:Int):Tk tok []:=⟨by simp,by simp⟩
theorem Tk.snoc {tok t:Int} {l:List Int}:Tk tok (l++[t])↔Tk tok l∧t≤tok∧¬ (0 < t∧t∈l):=by
  unfold Tk
  rw [List.filter_append]
  by_cases h:0 < t
  · simp only [List.filter_cons,List.filter_nil,h,decide_true,if_true,List.mem_append,List.mem_singleton]
    rw [List.nodup_append]
    simp only [List.mem_filter,decide_eq_true_eq,List.mem_singleton]
    constructor
    · rintro ⟨h1,h2,_,h3⟩
      refine ⟨⟨fun x hx => h1 x (.inl hx),h2⟩,h1 t (.inr rfl),fun ⟨_,k⟩ => h3 t ⟨k,h⟩ t rfl rfl⟩
    · rintro ⟨⟨h1,h2⟩,h3,h4⟩
      refine ⟨fun x hx => hx.elim (h1 x) (fun e => e ▸ h3),h2,by simp, ?_⟩
      rintro a ⟨ha,_⟩ b rfl rfl
      exact h4 ⟨trivial,ha⟩
  · have e:(List.filter (fun t => decide (0 < t)) [t])=[]:=by simp [h]
    rw [e,List.append_nil]
    constructor
    · rintro ⟨h1,h2⟩
      exact ⟨⟨fun x hx => h1 x (by simp [hx]),h2⟩,h1 t (by simp),fun k => h k.1⟩
    · rintro ⟨⟨h1,h2⟩,h3,_⟩
      exact ⟨fun x hx => by rcases List.mem_append.1 hx with hx | hx; exact h1 x hx; simp at hx; subst hx; exact h3,h2⟩
theorem Tk.pre {tok:Int} {l l':List Int} (h:Tk tok (l++l')):Tk tok l:=by
  refine ⟨fun t ht => h.1 t (List.mem_append_left _ ht), ?_⟩
  have:=h.2
  rw [List.filter_append] at this
  exact (List.nodup_append.1 this).1
def a2d (l:List Rn):List Int:=(l.map fun r => tokS r.states).flatten
theorem c2n (l:List Rn) (r:Rn):a2d (l++[r])=a2d l++tokS r.states:=by simp [a2d]
theorem a7k {l:List Rn} {k:Nat} (h:k < l.length):a2d (l.take (k+1))=a2d (l.take k)++tokS l[k].states:=by
  rw [List.take_succ_eq_append_getElem h,c2n]
structure WR (w:Wd):Prop where
  now:0≤w.now∧w.now≤MT
  token:0≤w.token∧w.token≤MT
  ndags:w.dags.length≤16
  nruns:w.runs.length≤64
  rdags:Rise (a1j w.dags)
  rruns:Rise (a1k w.runs)
  dags:∀ d∈w.dags,a0t d=0
  runs:∀ r∈w.runs,r.dag∈w.dags∧RnR r
  toks:Tk w.token (a2d w.runs)
theorem c2k (d:Dag) (h:a2w d):PCall Tryz.prog 53 [dagV d] (.bool (decide (a0t d≠0))):=by
  refine en53 (by simp) (by simp [a0b,a0i]) ?_
  have h1:=a9j d h.2 h.1
  unfold dagV at h1
  simp (maxSteps:=1000000) (disch:=omega) only [rg,gD,simprocAttr,c53,dagV]
  refine ⟨_,h1, ?_⟩
  by_cases c:a0t d=0
  · simp (maxSteps:=1000000) (disch:=omega) only [rg,gD,simprocAttr,eq_true c]
    (refine a0f rfl ?_ ?_<;>simp [pack,lo,loL,V.closed,a0b,a0a,c])
  · simp (maxSteps:=1000000) (disch:=omega) only [rg,gD,simprocAttr,eq_false c]
    (refine a0f rfl ?_ ?_<;>simp [pack,lo,loL,V.closed,a0b,a0a,c])
theorem c0h (a b:Dag) (h:dagV a=dagV b):a=b:=by
  obtain ⟨n,t⟩:=a
  obtain ⟨n',t'⟩:=b
  simp only [dagV,a0j,V.agg.injEq,List.cons.injEq,V.str.injEq,V.fsl.injEq,true_and,and_true] at h
  have:=b9b (f:=a0q) (fun a b h => by
    obtain ⟨a1,a2,a3,a4⟩:=a
    obtain ⟨b1,b2,b3,b4⟩:=b
    simp only [a0q,V.agg.injEq,List.cons.injEq,V.fsl.injEq,V.int.injEq,true_and,and_true] at h
    have:=b9b (f:=V.int .i64) (fun a b h => by simpa using h) h.1
    simp [this,h.2]) h.2
  rw [h.1,this]
theorem d0o {st:St} {rows:List Dag} {q:Dag→Bool} {H:Hp} {g:Nat} (hn:rows.length≤1000000) (hg:∀ x∈rows,PCall Tryz.prog g [dagV x] (.bool (q x))) :
    ACall Tryz.prog 52 [.fsl st 2 (mv dagV rows),.fn g [] []] H [] (.bool (rows.any q)) [] (rows.length*0) :=
  d1h (k:=some 2) ena52 ena113 (by decide) (by decide) c0h a0i (fun _ => rfl) (by omega) rfl rfl (FpOk.nil H) (fun x hx H' _ _ => by simpa using (hg x hx).toA H' [])
theorem b7q {l:List Dag} {d:Dag} (hr:Rise (a1j l)) {i:Nat} (hi:i=lbS d.name (a1j l)) (hlb:IsLb (a1j l) d.name i):d∈l↔d.name∈a1j l∧∃ h:i < l.length,l[i]=d:=by
  constructor
  · intro h
    have hm:d.name∈a1j l:=List.mem_map.2 ⟨d,h,rfl⟩
    obtain ⟨h1,h2⟩:=(hlb.mem hr).1 hm
    obtain ⟨k,hk,rfl⟩:=List.mem_iff_getElem.1 h
    have hil:i < l.length:=by rw [a1y] at h1; exact h1
    refine ⟨hm,hil, ?_⟩
    have e:i=k:=by
      rcases Nat.lt_trichotomy i k with e | e | e
      · have:=a4d hr k i (by rw [a1y]; exact hk) e
        rw [h2] at this
        simp only [a1j,List.getElem_map] at this
        rw [a7y] at this; cases this
      · exact e
      · have:=a4d hr i k h1 e
        rw [h2] at this
        simp only [a1j,List.getElem_map] at this
        rw [a7y] at this; cases this
    subst e; rfl
  · rintro ⟨_,h,rfl⟩; exact List.getElem_mem h
theorem a6z {l:List Str} (hr:Rise l) (t:Str):IsLb l t (lbS t l):=by
  obtain ⟨i,hi⟩:∃ i,IsLb l t i:=by
    have:∀ n,∀ hn:n≤l.length,∃ i,i≤n∧(∀ j (h:j < l.length),j < i→ltS l[j] t=true)∧(∀ (h:i < n),ltS (l[i]'(by omega)) t=false):=by
      intro n
      induction n with
      | zero => intro _; exact ⟨0,Nat.le_refl _,by intro j _ h; omega,by intro h; omega⟩
      | succ n ih =>
        intro hn
        obtain ⟨i,h1,h2,h3⟩:=ih (by omega)
        by_cases e:i < n
        · exact ⟨i,by omega,h2,fun _ => h3 e⟩
        · have e:i=n:=by omega
          subst e
          cases c:ltS l[i] t with
          | false => exact ⟨i,by omega,h2,fun _ => c⟩
          | true =>
            refine ⟨i+1,Nat.le_refl _,fun j hj hji => ?_,by intro h; omega⟩
            by_cases e:j=i
            · subst e; exact c
            · exact h2 j hj (by omega)
    obtain ⟨i,h1,h2,h3⟩:=this l.length (Nat.le_refl _)
    exact ⟨i,e0m hr h1 (fun h => h2 _ _ (by omega)) h3⟩
  rw [← hi.eq]; exact hi
section
open Classical in
theorem c1o (r:Rn) (ok:RnOk r):PCall Tryz.prog 57 [rnV r] (.bool (decide (RnR r))):=by
  have:=b6i r ok
  rwa [a6g (a9s r)] at this
theorem d3l (l:List Int) (t:Int):mset (tkM l) (.int .i64 t) (.bool true)=tkM (l++[t]):=(b8y l t).symm
theorem b6a {l:List Stt} {j:Nat} (h:j < l.length):tokS (l.take (j+1))=tokS (l.take j)++[l[j].token]:=b7k h
theorem d2z {l:List Dag}:(l.any fun d => decide (a0t d≠0))=true↔¬ ∀ d∈l,a0t d=0:=by
  simp [List.any_eq_true]
theorem c3f (a b:List Rn):a2d (a++b)=a2d a++a2d b:=by simp [a2d]
theorem c8o (a b:List Stt):tokS (a++b)=tokS a++tokS b:=by simp [tokS]
open Classical in
set_option maxHeartbeats 1000000 in
theorem b2c (w:Wd) (ok:WdOk w):PCall Tryz.prog 17 [wdV w] (.bool (decide (WR w))):=by
  refine en17 (by simp) (by simp [a0b,a1n]) ?_
  have no:∀ {p:Prop},(WR w→p)→¬ p→decide (WR w)=false:=fun h hp => decide_eq_false fun hw => hp (h hw)
  have hnd:=ok.dags
  have hnr:=ok.runs
  by_cases c1:w.now < 0
  · simp (maxSteps:=1000000) (disch:=omega) only [rg,gD,simprocAttr,c17,wdV,c1]
    (refine a0f rfl ?_ ?_<;>simp [pack,lo,loL,V.closed,a0b,a0a,no (fun h => h.now.1) (by omega)])
  by_cases c2:MT < w.now
  · unfold MT at c2
    simp (maxSteps:=1000000) (disch:=omega) only [rg,gD,simprocAttr,c17,wdV,c1,c2]
    (refine a0f rfl ?_ ?_<;>simp [pack,lo,loL,V.closed,a0b,a0a,no (fun h => h.now.2) (by unfold MT; omega)])
  by_cases c3:w.token < 0
  · unfold MT at c2
    simp (maxSteps:=1000000) (disch:=omega) only [rg,gD,simprocAttr,c17,wdV,c1,c2,c3]
    (refine a0f rfl ?_ ?_<;>simp [pack,lo,loL,V.closed,a0b,a0a,no (fun h => h.token.1) (by omega)])
  by_cases c4:MT < w.token
  · unfold MT at c2 c4
    simp (maxSteps:=1000000) (disch:=omega) only [rg,gD,simprocAttr,c17,wdV,c1,c2,c3,c4]
    (refine a0f rfl ?_ ?_<;>simp [pack,lo,loL,V.closed,a0b,a0a,no (fun h => h.token.2) (by unfold MT; omega)])
  by_cases c5:16 < w.dags.length
  · unfold MT at c2 c4
    simp (maxSteps:=1000000) (disch:=omega) only [rg,gD,simprocAttr,c17,wdV,c1,c2,c3,c4,a0k,show (16:Int) < w.dags.length by omega]
    (refine a0f rfl ?_ ?_<;>simp [pack,lo,loL,V.closed,a0b,a0a,no (fun h => h.ndags) (by omega)])
  by_cases c6:64 < w.runs.length
  · unfold MT at c2 c4
    simp (maxSteps:=1000000) (disch:=omega) only [rg,gD,simprocAttr,c17,wdV,c1,c2,c3,c4,a0k,show ¬ (16:Int) < w.dags.length by omega,show (64:Int) < w.runs.length by omega]
    (refine a0f rfl ?_ ?_<;>simp [pack,lo,loL,V.closed,a0b,a0a,no (fun h => h.nruns) (by omega)])
  have hd:=a9p w
  have hdr:=c7k w.dags (by omega)
  have hr:=a7s w
  have hrr:=c5m w.runs (by omega)
  have c2':=c2
  have c4':=c4
  unfold MT at c2' c4'
  by_cases c7:Rise (a1j w.dags)
  case neg =>
    simp (maxSteps:=1000000) (disch:=omega) only [rg,gD,simprocAttr,c17,wdV,c1,c2',c3,c4',a0k,show ¬ (16:Int) < w.dags.length by omega,show ¬ (64:Int) < w.runs.length by omega]
    refine ⟨_,hd, ?_⟩
    simp (maxSteps:=1000000) (disch:=omega) only [rg,gD,simprocAttr]
    refine ⟨_,hdr, ?_⟩
    simp (maxSteps:=1000000) (disch:=omega) only [rg,gD,simprocAttr,decide_eq_false c7]
    (refine a0f rfl ?_ ?_<;>simp [pack,lo,loL,V.closed,a0b,a0a,no (fun h => h.rdags) c7])
  by_cases c8:Rise (a1k w.runs)
  case neg =>
    simp (maxSteps:=1000000) (disch:=omega) only [rg,gD,simprocAttr,c17,wdV,c1,c2',c3,c4',a0k,show ¬ (16:Int) < w.dags.length by omega,show ¬ (64:Int) < w.runs.length by omega]
    refine ⟨_,hd, ?_⟩
    simp (maxSteps:=1000000) (disch:=omega) only [rg,gD,simprocAttr]
    refine ⟨_,hdr, ?_⟩
    simp (maxSteps:=1000000) (disch:=omega) only [rg,gD,simprocAttr,decide_eq_true c7]
    refine ⟨_,hr, ?_⟩
    simp (maxSteps:=1000000) (disch:=omega) only [rg,gD,simprocAttr]
    refine ⟨_,hrr, ?_⟩
    simp (maxSteps:=1000000) (disch:=omega) only [rg,gD,simprocAttr,decide_eq_false c8]
    (refine a0f rfl ?_ ?_<;>simp [pack,lo,loL,V.closed,a0b,a0a,no (fun h => h.rruns) c8])
  simp (maxSteps:=1000000) (disch:=omega) only [rg,gD,simprocAttr,c17,wdV,c1,c2',c3,c4',a0k,show ¬ (16:Int) < w.dags.length by omega,show ¬ (64:Int) < w.runs.length by omega]
  refine ⟨_,hd, ?_⟩
  simp (maxSteps:=1000000) (disch:=omega) only [rg,gD,simprocAttr]
  refine ⟨_,hdr, ?_⟩
  simp (maxSteps:=1000000) (disch:=omega) only [rg,gD,simprocAttr,decide_eq_true c7]
  refine ⟨_,hr, ?_⟩
  simp (maxSteps:=1000000) (disch:=omega) only [rg,gD,simprocAttr]
  refine ⟨_,hrr, ?_⟩
  simp (maxSteps:=1000000) (disch:=omega) only [rg,gD,simprocAttr,decide_eq_true c8]
  refine ⟨_,_,_,_,d0o (rows:=w.dags) (q:=fun d => decide (a0t d≠0)) (g:=53) (by omega) (fun x hx => c2k x (ok.dag x hx)), ?_⟩
  cases c9:(w.dags.any fun d => decide (a0t d≠0)) with
  | true =>
    simp (maxSteps:=1000000) (disch:=omega) only [rg,gD,simprocAttr]
    (refine a0f rfl ?_ ?_<;>simp [pack,lo,loL,V.closed,a0b,a0a,no (fun h => h.dags) (d2z.1 c9)])
  | false =>
  have c9':∀ d∈w.dags,a0t d=0:=fun d hd => by
    have:=List.any_eq_false.1 c9 d hd
    simpa using this
  simp (maxSteps:=1000000) (disch:=omega) only [rg,gD,simprocAttr,Nat.mul_zero,Nat.add_zero,a0k]
  refine x_it w.runs.length (fun k σ H => 2≤H.n∧H.m 0=some (.arr 4 [wdV w])∧H.m 1=some (.mp (tkM (a2d (w.runs.take k))))∧(∀ r∈w.runs.take k,r.dag∈w.dags∧RnR r)∧Tk w.token (a2d (w.runs.take k)) ∧
    σ=[(1,.ptr 0 0 0),(3,.map 1),(57,.fsl .loose 5 (mv rnV w.runs)),(58,.int .i64 (w.runs.length:Int)),(59,.int .i64 (k:Int))]) ⟨Nat.le_refl 2,by simp [upd,wdV],by simp [upd,a2d,tkM],by simp,by simpa [a2d] using Tk.nil _,rfl⟩ ?_
  rintro T k σ ⟨n,m⟩ hkk ⟨hn,e0,e1,hok,htk,rfl⟩ hN hX hR
  simp only at hn e0 e1
  by_cases hk:k < w.runs.length
  case neg =>
    obtain rfl:k=w.runs.length:=by omega
    simp (maxSteps:=1000000) (disch:=omega) only [rg,gD,simprocAttr,Int.lt_irrefl]
    refine hX _ _ _ ?_
    simp (maxSteps:=1000000) (disch:=omega) only [rg,gD,simprocAttr]
    refine a0s ?_
    simp (maxSteps:=1000000) (disch:=omega) only [rg,gD,simprocAttr]
    rw [List.take_length] at hok htk
    (refine a0f rfl ?_ ?_<;>simp [pack,lo,loL,V.closed,a0b,a0a,decide_eq_true (show WR w from ⟨⟨by omega,by omega⟩,⟨by omega,by omega⟩,by omega,by omega,c7,c8,c9',hok,htk⟩)])
  obtain ⟨r,hrdef⟩:∃ r,r=w.runs[k]:=⟨_,rfl⟩
  have hmem:r∈w.runs:=by rw [hrdef]; exact List.getElem_mem hk
  have okr:=ok.run r hmem
  have hlb:=a6z c7 r.dag.name
  have hdm:=b7q (d:=r.dag) c7 rfl hlb
  have hfi:=b2u r.dag.name w.dags (by omega) c7
  generalize lbS r.dag.name (a1j w.dags)=i at hlb hdm hfi
  have hrun:=c1o r okr
  have l0:(0:Nat)≠n:=by omega
  have l1:(1:Nat)≠n:=by omega
  have stay:2≤n+1:=by omega
  have bad:(WR w→False)→∀ σ' H',σ'=[(2,.bool false)]→T .ret σ' H':=fun hb σ' H' e => by
    subst e
    refine hR _ _ ?_
    simp (maxSteps:=1000000) (disch:=omega) only [rg,gD,simprocAttr]
    (refine a0f rfl ?_ ?_<;>simp [pack,lo,loL,V.closed,a0b,a0a,decide_eq_false (show ¬ WR w from hb)])
  unfold wdV at e0
  simp (maxSteps:=1000000) (disch:=omega) only [rg,gD,simprocAttr,show (k:Int) < w.runs.length by omega,a0m hk,← hrdef,rnV,e0]
  refine ⟨_,hd, ?_⟩
  simp (maxSteps:=1000000) (disch:=omega) only [rg,gD,simprocAttr]
  refine ⟨_,hfi, ?_⟩
  by_cases d1:r.dag.name∈a1j w.dags
  case neg =>
    simp (maxSteps:=1000000) (disch:=omega) only [rg,gD,simprocAttr,decide_eq_false d1]
    refine bad (fun h => d1 (hdm.1 (h.runs r hmem).1).1) _ _ rfl
  obtain ⟨hil0,hin⟩:=(hlb.mem c7).1 d1
  have hil:i < w.dags.length:=by rw [a1y] at hil0; exact hil0
  have hsa:=b4i w.dags[i] r.dag (ok.dag _ (List.getElem_mem hil)) ⟨okr.tasks,okr.needs⟩
  simp (maxSteps:=1000000) (disch:=omega) only [rg,gD,simprocAttr,decide_eq_true d1,e0,Int.toNat_natCast,a0m hil,a2l]
  refine ⟨_,hsa, ?_⟩
  by_cases d2:w.dags[i]=r.dag
  case neg =>
    simp (maxSteps:=1000000) (disch:=omega) only [rg,gD,simprocAttr,decide_eq_false d2]
    refine bad (fun h => d2 (hdm.1 (h.runs r hmem).1).2.2) _ _ rfl
  simp (maxSteps:=1000000) (disch:=omega) only [rg,gD,simprocAttr,decide_eq_true d2]
  refine ⟨_,hrun, ?_⟩
  by_cases d3:RnR r
  case neg =>
    simp (maxSteps:=1000000) (disch:=omega) only [rg,gD,simprocAttr,decide_eq_false d3]
    refine bad (fun h => d3 (h.runs r hmem).2) _ _ rfl
  have hpre:WR w→∀ j,Tk w.token (a2d (w.runs.take k)++tokS (r.states.take j)):=fun h j => by
    have e1:a2d w.runs=a2d (w.runs.take k)++(tokS r.states++a2d (w.runs.drop (k+1))):=by
      conv => lhs; rw [← List.take_append_drop (k+1) w.runs]
      rw [c3f,a7k hk,← hrdef,List.append_assoc]
    have e2:tokS r.states=tokS (r.states.take j)++tokS (r.states.drop j):=by
      conv => lhs; rw [← List.take_append_drop j r.states]
      rw [c8o]
    have h3:=h.toks
    rw [e1,e2,List.append_assoc,← List.append_assoc] at h3
    exact h3.pre
  have hrs:=d3.small.2.1
  simp (maxSteps:=1000000) (disch:=omega) only [rg,gD,simprocAttr,decide_eq_true d3,a0h,a0k]
  refine x_it r.states.length (fun j σ H => 2≤H.n∧H.m 0=some (.arr 4 [wdV w])∧H.m 1=some (.mp (tkM (a2d (w.runs.take k)++tokS (r.states.take j))))∧Tk w.token (a2d (w.runs.take k)++tokS (r.states.take j)) ∧
    σ=[(1,.ptr 0 0 0),(3,.map 1),(57,.fsl .loose 5 (mv rnV w.runs)),(58,.int .i64 (w.runs.length:Int)),(59,.int .i64 (k:Int)),(91,.fsl .loose 5 (mv sttV r.states)),(92,.int .i64 (r.states.length:Int)),(93,.int .i64 (j:Int))])
    ⟨by simp only []; omega,(by simp (disch:=omega) only [a0d,a0c,wo_0,wo_1,wo_2,e0,wdV]),(by simp (disch:=omega) only [a0d,a0c,wo_0,wo_1,wo_2,e1,List.take_zero,tokS,List.map_nil,List.append_nil]),by simpa [tokS] using htk,rfl⟩ ?_
  rintro T2 j σ ⟨n2,m2⟩ hjj ⟨hn2,f0,f1,hj3,rfl⟩ hN2 hX2 hR2
  simp only at hn2 f0 f1
  by_cases hj:j < r.states.length
  · have hsn:=b6a hj
    have htok:=d1a (a2d (w.runs.take k)++tokS (r.states.take j)) r.states[j].token
    have htr:=c5g (a2d (w.runs.take k)++tokS (r.states.take j)) r.states[j].token
    have hup:=d3l (a2d (w.runs.take k)++tokS (r.states.take j)) r.states[j].token
    have hst:=Tk.snoc (tok:=w.token) (t:=r.states[j].token) (l:=a2d (w.runs.take k)++tokS (r.states.take j))
    rw [List.append_assoc,← hsn] at hst hup
    have m0:(0:Nat)≠n2:=by omega
    have m1:(1:Nat)≠n2:=by omega
    unfold wdV at f0
    have bad2:¬ (r.states[j].token≤w.token∧¬ (0 < r.states[j].token∧r.states[j].token∈a2d (w.runs.take k)++tokS (r.states.take j)))→∀ σ' H',σ'=[(2,.bool false)]→T2 .ret σ' H':=fun hb σ' H' e => by
      refine hR2 _ _ ?_
      simp (maxSteps:=1000000) (disch:=omega) only [rg,gD,simprocAttr]
      exact bad (fun h => hb (hst.1 (hpre h (j+1))).2) _ _ e
    by_cases g1:w.token < r.states[j].token
    · simp (maxSteps:=1000000) (disch:=omega) only [rg,gD,simprocAttr,show (j:Int) < r.states.length by omega,a0m hj,sttV,f0,f1,g1]
      exact bad2 (fun h => by omega) _ _ rfl
    · by_cases g2:0 < r.states[j].token
      · by_cases g3:r.states[j].token∈a2d (w.runs.take k)++tokS (r.states.take j)
        · rw [decide_eq_true g3] at htr
          simp (maxSteps:=1000000) (disch:=omega) only [rg,gD,simprocAttr,show (j:Int) < r.states.length by omega,a0m hj,sttV,f0,f1,g1,g2,htr]
          refine ⟨htok, ?_⟩
          exact bad2 (fun h => h.2 ⟨g2,g3⟩) _ _ rfl
        · rw [decide_eq_false g3] at htr
          simp (maxSteps:=1000000) (disch:=omega) only [rg,gD,simprocAttr,show (j:Int) < r.states.length by omega,a0m hj,sttV,f0,f1,g1,g2,htr,hup]
          refine ⟨htok,htok, ?_⟩
          exact hN2 _ _ hj ⟨by show 2≤n2+1; omega,(by simp (disch:=omega) only [a0d,a0c,wo_0,wo_1,wo_2,f0,wdV]),(by simp (disch:=omega) only [a0d,a0c,wo_0,wo_1,wo_2]),hst.2 ⟨hj3,by omega,fun h => g3 h.2⟩,rfl⟩
      · simp (maxSteps:=1000000) (disch:=omega) only [rg,gD,simprocAttr,show (j:Int) < r.states.length by omega,a0m hj,sttV,f0,f1,g1,g2,hup]
        refine ⟨htok, ?_⟩
        exact hN2 _ _ hj ⟨by show 2≤n2+1; omega,(by simp (disch:=omega) only [a0d,a0c,wo_0,wo_1,wo_2,f0,wdV]),(by simp (disch:=omega) only [a0d,a0c,wo_0,wo_1,wo_2]),hst.2 ⟨hj3,by omega,fun h => g2 h.1⟩,rfl⟩
  · obtain rfl:j=r.states.length:=by omega
    simp (maxSteps:=1000000) (disch:=omega) only [rg,gD,simprocAttr,Int.lt_irrefl]
    refine hX2 _ _ _ ?_
    simp (maxSteps:=1000000) (disch:=omega) only [rg,gD,simprocAttr]
    refine a0s ?_
    rw [List.take_length] at f1 hj3
    have e2:=a7k hk
    rw [← hrdef] at e2
    rw [← e2] at f1 hj3
    simp (maxSteps:=1000000) (disch:=omega) only [rg,gD,simprocAttr]
    refine hN _ _ hk ⟨hn2,f0,f1,fun x hx => ?_,hj3,rfl⟩
    rw [List.take_succ_eq_append_getElem hk,← hrdef] at hx
    rcases List.mem_append.1 hx with hx | hx
    · exact hok x hx
    · simp at hx; subst hx
      exact ⟨hdm.2 ⟨d1,hil,d2⟩,d3⟩
end
def a8z (t:Str) (d:Dag):Bool:=decide (d.name=t)
def keyP (t:Str) (r:Rn):Bool:=decide (r.key=t)
theorem b3d (w:Wd) (t:Str) (hl:w.dags.length≤1000):PCall Tryz.prog 59 [wdV w,.str t] (.int .i64 (ixO (fndS (a8z t) 0 w.dags))):=by
  refine en59 (by simp) (by simp [a0b,V.closed,a1n]) ?_
  simp (maxSteps:=1000000) (disch:=omega) only [rg,gD,simprocAttr,c59,wdV,a0k]
  refine x_it w.dags.length (fun k σ H => 1≤H.n∧fndS (a8z t) 0 w.dags=fndS (a8z t) k (w.dags.drop k) ∧
    σ=[(1,.str t),(8,.fsl .loose 2 (mv dagV w.dags)),(9,.int .i64 (w.dags.length:Int)),(10,.int .i64 (k:Int))]) ⟨Nat.le_refl 1,rfl,rfl⟩ ?_
  rintro T k σ ⟨n,m⟩ hkk ⟨hn,hf,rfl⟩ hN hX hR
  simp only at hn
  by_cases hk:k < w.dags.length
  · rw [a3o hk] at hf
    by_cases d:w.dags[k].name=t
    · rw [if_pos (by simp [a8z,d])] at hf
      simp (maxSteps:=1000000) (disch:=omega) only [rg,gD,simprocAttr,show (k:Int) < w.dags.length by omega,a0m hk,dagV,eq_true d]
      refine hR _ _ ?_
      (refine a0f rfl ?_ ?_<;>simp [pack,lo,loL,V.closed,a0b,a0a,hf,ixO])
    · rw [if_neg (by simp [a8z,d])] at hf
      simp (maxSteps:=1000000) (disch:=omega) only [rg,gD,simprocAttr,show (k:Int) < w.dags.length by omega,a0m hk,dagV,eq_false d]
      exact hN _ _ hk ⟨by show 1≤n+1; omega,hf,rfl⟩
  · obtain rfl:k=w.dags.length:=by omega
    simp (maxSteps:=1000000) (disch:=omega) only [rg,gD,simprocAttr,Int.lt_irrefl]
    refine hX _ _ _ ?_
    simp (maxSteps:=1000000) (disch:=omega) only [rg,gD,simprocAttr]
    refine a0s ?_
    simp (maxSteps:=1000000) (disch:=omega) only [rg,gD,simprocAttr]
    rw [List.drop_length] at hf
    (refine a0f rfl ?_ ?_<;>simp [pack,lo,loL,V.closed,a0b,a0a,hf,ixO,fndS])
theorem b3c (w:Wd) (t:Str) (hl:w.runs.length≤1000):PCall Tryz.prog 46 [wdV w,.str t] (.int .i64 (ixO (fndS (keyP t) 0 w.runs))):=by
  refine en46 (by simp) (by simp [a0b,V.closed,a1n]) ?_
  simp (maxSteps:=1000000) (disch:=omega) only [rg,gD,simprocAttr,c46,wdV,a0k]
  refine x_it w.runs.length (fun k σ H => 1≤H.n∧fndS (keyP t) 0 w.runs=fndS (keyP t) k (w.runs.drop k) ∧
    σ=[(1,.str t),(8,.fsl .loose 5 (mv rnV w.runs)),(9,.int .i64 (w.runs.length:Int)),(10,.int .i64 (k:Int))]) ⟨Nat.le_refl 1,rfl,rfl⟩ ?_
  rintro T k σ ⟨n,m⟩ hkk ⟨hn,hf,rfl⟩ hN hX hR
  simp only at hn
  by_cases hk:k < w.runs.length
  · rw [a3o hk] at hf
    by_cases d:w.runs[k].key=t
    · rw [if_pos (by simp [keyP,d])] at hf
      simp (maxSteps:=1000000) (disch:=omega) only [rg,gD,simprocAttr,show (k:Int) < w.runs.length by omega,a0m hk,rnV,eq_true d]
      refine hR _ _ ?_
      (refine a0f rfl ?_ ?_<;>simp [pack,lo,loL,V.closed,a0b,a0a,hf,ixO])
    · rw [if_neg (by simp [keyP,d])] at hf
      simp (maxSteps:=1000000) (disch:=omega) only [rg,gD,simprocAttr,show (k:Int) < w.runs.length by omega,a0m hk,rnV,eq_false d]
      exact hN _ _ hk ⟨by show 1≤n+1; omega,hf,rfl⟩
  · obtain rfl:k=w.runs.length:=by omega
    simp (maxSteps:=1000000) (disch:=omega) only [rg,gD,simprocAttr,Int.lt_irrefl]
    refine hX _ _ _ ?_
    simp (maxSteps:=1000000) (disch:=omega) only [rg,gD,simprocAttr]
    refine a0s ?_
    simp (maxSteps:=1000000) (disch:=omega) only [rg,gD,simprocAttr]
    rw [List.drop_length] at hf
    (refine a0f rfl ?_ ?_<;>simp [pack,lo,loL,V.closed,a0b,a0a,hf,ixO,fndS])
def posS (l:List Int):List Int:=l.filter fun t => decide (0 < t)
theorem c8u (a b:List Int):posS (a++b)=posS a++posS b:=by simp [posS]
theorem c0f (l:List Int):(posS l).length≤l.length:=List.length_filter_le _ _
theorem Gro.snap {lo n:Nat} {m:Hm} {sz:Nat} {v:V} {l:List V} (h:Gro lo n m sz v l) (hc:a0b l=true) (k:Nat):∃ st,Ev.snap (k+1) m v=some (.fsl st sz l):=by
  rcases h with ⟨st,_,rfl,rfl⟩ | ⟨id,h1,h2,rfl,h3⟩
  · exact ⟨st,a8t rfl⟩
  · exact ⟨.loose,a4p h3 hc rfl⟩
theorem b5w (l:List Stt):(tokS l).length=l.length:=by simp [tokS]
theorem c2c (w:Wd) (hl:w.runs.length≤1000) (hr:∀ r∈w.runs,r.states.length≤1000):PCall Tryz.prog 62 [wdV w] (.fsl .loose 1 (vI (posS (a2d w.runs)))):=by
  refine en62 (by simp) (by simp [a0b,V.closed,a1n]) ?_
  have hlen:∀ k,k≤w.runs.length→(a2d (w.runs.take k)).length≤1000*k:=by
    intro k
    induction k with
    | zero => intro _; simp [a2d]
    | succ k ih =>
      intro hk
      rw [a7k (by omega),List.length_append,b5w]
      have:=hr _ (List.getElem_mem (show k < w.runs.length by omega))
      have:=ih (by omega)
      omega
  simp (maxSteps:=1000000) (disch:=omega) only [rg,gD,simprocAttr,c62,wdV,a0k]
  refine x_it w.runs.length (fun k σ H => 1≤H.n∧∃ v,Gro 1 H.n H.m 1 v (vI (posS (a2d (w.runs.take k)))) ∧
    σ=[(3,v),(10,.fsl .loose 5 (mv rnV w.runs)),(11,.int .i64 (w.runs.length:Int)),(12,.int .i64 (k:Int))]) ⟨Nat.le_refl 1,.fsl .full 1 [],Gro.full,rfl⟩ ?_
  rintro T k σ ⟨n,m⟩ hkk ⟨hn,v,hg,rfl⟩ hN hX hR
  simp only at hn hg
  by_cases hk:k < w.runs.length
  case neg =>
    obtain rfl:k=w.runs.length:=by omega
    rw [List.take_length] at hg
    simp (maxSteps:=1000000) (disch:=omega) only [rg,gD,simprocAttr,Int.lt_irrefl]
    refine hX _ _ _ ?_
    simp (maxSteps:=1000000) (disch:=omega) only [rg,gD,simprocAttr]
    refine a0s ?_
    simp (maxSteps:=1000000) (disch:=omega) only [rg,gD,simprocAttr]
    obtain ⟨st,hs⟩:=hg.snap a2s 3
    exact b2t (l:=[v]) rfl hs (by simp [lo,d5l])
  obtain ⟨r,hrdef⟩:∃ r,r=w.runs[k]:=⟨_,rfl⟩
  have hrs:=hr r (by rw [hrdef]; exact List.getElem_mem hk)
  have hlk:=hlen k (by omega)
  simp (maxSteps:=1000000) (disch:=omega) only [rg,gD,simprocAttr,show (k:Int) < w.runs.length by omega,a0m hk,← hrdef,rnV,a0h,a0k]
  refine x_it r.states.length (fun j σ H => 1≤H.n∧∃ v,Gro 1 H.n H.m 1 v (vI (posS (a2d (w.runs.take k)++tokS (r.states.take j)))) ∧
    σ=[(3,v),(10,.fsl .loose 5 (mv rnV w.runs)),(11,.int .i64 (w.runs.length:Int)),(12,.int .i64 (k:Int)),(17,.fsl .loose 5 (mv sttV r.states)),(18,.int .i64 (r.states.length:Int)),(19,.int .i64 (j:Int))])
    ⟨by simp only []; omega,v,by simpa [tokS] using hg.keep (by omega) (fun id h1 h2 => by simp only [upd]; rw [if_neg (by omega),if_neg (by omega)]),rfl⟩ ?_
  rintro T2 j σ ⟨n2,m2⟩ hjj ⟨hn2,v2,hg2,rfl⟩ hN2 hX2 hR2
  simp only at hn2 hg2
  by_cases hj:j < r.states.length
  case neg =>
    obtain rfl:j=r.states.length:=by omega
    have e2:=a7k hk
    rw [← hrdef] at e2
    rw [List.take_length,← e2] at hg2
    simp (maxSteps:=1000000) (disch:=omega) only [rg,gD,simprocAttr,Int.lt_irrefl]
    refine hX2 _ _ _ ?_
    simp (maxSteps:=1000000) (disch:=omega) only [rg,gD,simprocAttr]
    refine a0s ?_
    simp (maxSteps:=1000000) (disch:=omega) only [rg,gD,simprocAttr]
    exact hN _ _ hk ⟨hn2,v2,hg2,rfl⟩
  have hsn:=b6a hj
  have e3:posS (a2d (w.runs.take k)++tokS (r.states.take (j+1)))=posS (a2d (w.runs.take k)++tokS (r.states.take j))++posS [r.states[j].token]:=by
    rw [hsn,← List.append_assoc,c8u]
  have hkeep:Gro 1 (n2+1) (upd (upd m2 n2 (some (Ob.arr 5 [V.agg [V.int .i64 0,V.int .i64 0,V.int .i64 0,V.int .i64 0,V.str []]]))) n2 (some (Ob.arr 5 [V.agg [V.int .i64 r.states[j].is,V.int .i64 r.states[j].tried,V.int .i64 r.states[j].due,V.int .i64 r.states[j].token,V.str r.states[j].result]]))) 1 v2 (vI (posS (a2d (w.runs.take k)++tokS (r.states.take j)))) :=
    hg2.keep (by omega) (fun id h1 h2 => by simp only [upd]; rw [if_neg (by omega),if_neg (by omega)])
  by_cases g:0 < r.states[j].token
  case neg =>
    have e4:posS [r.states[j].token]=[]:=by simp [posS,g]
    rw [e4,List.append_nil] at e3
    simp (maxSteps:=1000000) (disch:=omega) only [rg,gD,simprocAttr,show (j:Int) < r.states.length by omega,a0m hj,sttV,g]
    exact hN2 _ _ hj ⟨by show 1≤n2+1; omega,v2,by rw [e3]; exact hkeep,rfl⟩
  have e4:posS [r.states[j].token]=[r.states[j].token]:=by simp [posS,g]
  rw [e4] at e3
  have hlp:(posS (a2d (w.runs.take k)++tokS (r.states.take j))).length≤2000000:=by
    have h1:=c0f (a2d (w.runs.take k)++tokS (r.states.take j))
    rw [List.length_append,b5w,List.length_take] at h1
    omega
  simp (maxSteps:=1000000) (disch:=omega) only [rg,gD,simprocAttr,show (j:Int) < r.states.length by omega,a0m hj,sttV,g]
  refine a4h (lo:=1) hkeep (by simp only []; omega) (ys:=[.int .i64 r.states[j].token]) rfl (by simp) (by simp [a2m]; omega) fun v' fp ds hg' hlo hkp => ?_
  rw [x_nx]
  refine ⟨by simp only [a1t], ?_⟩
  simp (maxSteps:=1000000) (disch:=omega) only [rg,gD,simprocAttr]
  refine hN2 _ _ hj ⟨by simp only []; omega,v',by rw [e3]; simpa [vI,mv] using hg',rfl⟩
section
open Classical in
theorem c1c (r:Rn) (ok:RnOk r):PCall Tryz.prog 61 [rnV r] (.bool (decide (RnR r))):=by
  have:=c1q r ok
  rwa [b7o,a6g (a9s r)] at this
theorem d5z {l:List Dag} {d:Dag} (hr:Rise (a1j l)):d∈l↔∃ g,fndS (a8z d.name) 0 l=some g∧∃ h:g < l.length,l[g]=d:=by
  constructor
  · intro hd
    cases hf:fndS (a8z d.name) 0 l with
    | none =>
      have:=a9n hf d hd
      simp [a8z] at this
    | some g =>
      obtain ⟨hg,h1,_⟩:=a4k hf
      refine ⟨g,rfl,hg, ?_⟩
      simp only [a8z,decide_eq_true_eq] at h1
      obtain ⟨k,hk,rfl⟩:=List.mem_iff_getElem.1 hd
      have e:g=k:=by
        rcases Nat.lt_trichotomy g k with e | e | e
        · have:=a4d hr k g (by rw [a1y]; exact hk) e
          simp only [a1j,List.getElem_map,h1] at this
          rw [a7y] at this; cases this
        · exact e
        · have:=a4d hr g k (by rw [a1y]; exact hg) e
          simp only [a1j,List.getElem_map,h1] at this
          rw [a7y] at this; cases this
      subst e; rfl
  · rintro ⟨g,_,h,rfl⟩; exact List.getElem_mem h
theorem b9y {l:List Int} {t:Int}:t∈posS l↔t∈l∧0 < t:=by simp [posS]
def d5x (tok:Int) (P:List Int):Prop:=∀ i (h:i < P.length),P[i]≤tok∧∀ k (hk:k < i),P[k]'(Nat.lt_trans hk h)≠P[i]
theorem d6s {tok:Int} {l:List Int} (h0:0≤tok):Tk tok l↔d5x tok (posS l):=by
  unfold Tk d5x
  constructor
  · rintro ⟨h1,h2⟩ i hi
    refine ⟨h1 _ (b9y.1 (List.getElem_mem hi)).1,fun k hk e => ?_⟩
    have:(posS l).Nodup:=h2
    rw [List.nodup_iff_pairwise_ne,List.pairwise_iff_getElem] at this
    exact this k i (by omega) hi hk e
  · intro h
    refine ⟨fun t ht => ?_, ?_⟩
    · by_cases c:0 < t
      · obtain ⟨i,hi,rfl⟩:=List.mem_iff_getElem.1 (b9y.2 ⟨ht,c⟩)
        exact (h i hi).1
      · omega
    · show (posS l).Nodup
      rw [List.nodup_iff_pairwise_ne,List.pairwise_iff_getElem]
      intro i j hi hj hij
      exact (h j hj).2 i hij
open Classical in
set_option maxHeartbeats 1000000 in
theorem c2t (w:Wd) (ok:WdOk w):PCall Tryz.prog 18 [wdV w] (.bool (decide (WR w))):=by
  refine en18 (by simp) (by simp [a0b,a1n]) ?_
  have no:∀ {p:Prop},(WR w→p)→¬ p→decide (WR w)=false:=fun h hp => decide_eq_false fun hw => hp (h hw)
  have hnd:=ok.dags
  have hnr:=ok.runs
  by_cases c1:w.now < 0
  · simp (maxSteps:=1000000) (disch:=omega) only [rg,gD,simprocAttr,c18,wdV,c1]
    (refine a0f rfl ?_ ?_<;>simp [pack,lo,loL,V.closed,a0b,a0a,no (fun h => h.now.1) (by omega)])
  by_cases c2:MT < w.now
  · unfold MT at c2
    simp (maxSteps:=1000000) (disch:=omega) only [rg,gD,simprocAttr,c18,wdV,c1,c2]
    (refine a0f rfl ?_ ?_<;>simp [pack,lo,loL,V.closed,a0b,a0a,no (fun h => h.now.2) (by unfold MT; omega)])
  by_cases c3:w.token < 0
  · unfold MT at c2
    simp (maxSteps:=1000000) (disch:=omega) only [rg,gD,simprocAttr,c18,wdV,c1,c2,c3]
    (refine a0f rfl ?_ ?_<;>simp [pack,lo,loL,V.closed,a0b,a0a,no (fun h => h.token.1) (by omega)])
  by_cases c4:MT < w.token
  · unfold MT at c2 c4
    simp (maxSteps:=1000000) (disch:=omega) only [rg,gD,simprocAttr,c18,wdV,c1,c2,c3,c4]
    (refine a0f rfl ?_ ?_<;>simp [pack,lo,loL,V.closed,a0b,a0a,no (fun h => h.token.2) (by unfold MT; omega)])
  by_cases c5:16 < w.dags.length
  · unfold MT at c2 c4
    simp (maxSteps:=1000000) (disch:=omega) only [rg,gD,simprocAttr,c18,wdV,c1,c2,c3,c4,a0k,show (16:Int) < w.dags.length by omega]
    (refine a0f rfl ?_ ?_<;>simp [pack,lo,loL,V.closed,a0b,a0a,no (fun h => h.ndags) (by omega)])
  by_cases c6:64 < w.runs.length
  · unfold MT at c2 c4
    simp (maxSteps:=1000000) (disch:=omega) only [rg,gD,simprocAttr,c18,wdV,c1,c2,c3,c4,a0k,show ¬ (16:Int) < w.dags.length by omega,show (64:Int) < w.runs.length by omega]
    (refine a0f rfl ?_ ?_<;>simp [pack,lo,loL,V.closed,a0b,a0a,no (fun h => h.nruns) (by omega)])
  have c2':=c2
  have c4':=c4
  unfold MT at c2' c4'
  simp (maxSteps:=1000000) (disch:=omega) only [rg,gD,simprocAttr,c18,wdV,c1,c2',c3,c4',a0k,show ¬ (16:Int) < w.dags.length by omega,show ¬ (64:Int) < w.runs.length by omega]
  refine x_it w.dags.length (fun k σ H => 1≤H.n∧H.m 0=some (.arr 4 [wdV w])∧(∀ i (h:i < w.dags.length),i < k→a0t w.dags[i]=0∧∀ h0:0 < i,ltS w.dags[i - 1].name w.dags[i].name=true) ∧
    σ=[(1,.ptr 0 0 0),(43,.fsl .loose 2 (mv dagV w.dags)),(44,.int .i64 (w.dags.length:Int)),(45,.int .i64 (k:Int))]) ⟨Nat.le_refl 1,by simp [upd,wdV],by intro i h hi; omega,rfl⟩ ?_
  rintro T k σ ⟨n,m⟩ hkk ⟨hn,e0,hs,rfl⟩ hN hX hR
  simp only at hn e0
  by_cases hk:k < w.dags.length
  · have hd:=b2y w.dags[k] (ok.dag _ (List.getElem_mem hk)).2 (ok.dag _ (List.getElem_mem hk)).1
    rw [a9v] at hd
    have l0:(0:Nat)≠n:=by omega
    have bad:(WR w→False)→∀ σ' H',σ'=[(2,.bool false)]→T .ret σ' H':=fun hb σ' H' e => by
      subst e
      refine hR _ _ ?_
      simp (maxSteps:=1000000) (disch:=omega) only [rg,gD,simprocAttr]
      (refine a0f rfl ?_ ?_<;>simp [pack,lo,loL,V.closed,a0b,a0a,decide_eq_false (show ¬ WR w from hb)])
    unfold wdV at e0
    unfold dagV at hd
    simp (maxSteps:=1000000) (disch:=omega) only [rg,gD,simprocAttr,show (k:Int) < w.dags.length by omega,a0m hk,dagV,e0]
    refine ⟨_,hd, ?_⟩
    by_cases d1:a0t w.dags[k]=0
    case neg =>
      simp (maxSteps:=1000000) (disch:=omega) only [rg,gD,simprocAttr,eq_false d1]
      exact bad (fun h => d1 (h.dags _ (List.getElem_mem hk))) _ _ rfl
    by_cases d2:0 < k
    · have hk1:k - 1 < w.dags.length:=by omega
      have et:((k:Int) - 1).toNat=k - 1:=by omega
      simp (maxSteps:=1000000) (disch:=omega) only [rg,gD,simprocAttr,eq_true d1,show (0:Int) < (k:Int) by omega,e0,et,a0m hk1,dagV,b4p]
      refine ⟨by omega, ?_⟩
      cases d3:ltS w.dags[k - 1].name w.dags[k].name with
      | false =>
        simp (maxSteps:=1000000) (disch:=omega) only [rg,gD,simprocAttr]
        exact bad (fun h => by
          have:=h.rdags (k - 1) (by rw [a1y]; omega)
          simp only [a1j,List.getElem_map,show k - 1+1=k by omega] at this
          rw [d3] at this; cases this) _ _ rfl
      | true =>
        simp (maxSteps:=1000000) (disch:=omega) only [rg,gD,simprocAttr]
        refine hN _ _ hk ⟨by show 1≤n+1; omega,(by simp (disch:=omega) only [a0d,a0c,wo_0,wo_1,wo_2,e0,wdV]),fun i h hi => ?_,rfl⟩
        by_cases e:i=k
        · subst e; exact ⟨d1,fun _ => d3⟩
        · exact hs i h (by omega)
    · simp (maxSteps:=1000000) (disch:=omega) only [rg,gD,simprocAttr,eq_true d1,show ¬ (0:Int) < (k:Int) by omega]
      refine hN _ _ hk ⟨by show 1≤n+1; omega,(by simp (disch:=omega) only [a0d,a0c,wo_0,wo_1,wo_2,e0,wdV]),fun i h hi => ?_,rfl⟩
      by_cases e:i=k
      · subst e; exact ⟨d1,fun h => absurd h d2⟩
      · exact hs i h (by omega)
  obtain rfl:k=w.dags.length:=by omega
  have c7:Rise (a1j w.dags):=fun i hi => by
    rw [a1y] at hi
    have:=(hs (i+1) hi hi).2 (by omega)
    simpa [a1j] using this
  have c9:∀ d∈w.dags,a0t d=0:=fun d hd => by
    obtain ⟨i,hi,rfl⟩:=List.mem_iff_getElem.1 hd
    exact (hs i hi hi).1
  simp (maxSteps:=1000000) (disch:=omega) only [rg,gD,simprocAttr,Int.lt_irrefl]
  refine hX _ _ _ ?_
  simp (maxSteps:=1000000) (disch:=omega) only [rg,gD,simprocAttr]
  refine a0s ?_
  clear hN hX hR hs
  have e0':=e0
  unfold wdV at e0'
  simp (maxSteps:=1000000) (disch:=omega) only [rg,gD,simprocAttr,e0',a0k]
  refine x_it w.runs.length (fun k σ H => 1≤H.n∧H.m 0=some (.arr 4 [wdV w])∧(∀ i (h:i < w.runs.length),i < k→(w.runs[i].dag∈w.dags∧RnR w.runs[i])∧∀ h0:0 < i,ltS w.runs[i - 1].key w.runs[i].key=true) ∧
    σ=[(1,.ptr 0 0 0),(71,.fsl .loose 5 (mv rnV w.runs)),(72,.int .i64 (w.runs.length:Int)),(73,.int .i64 (k:Int))]) ⟨hn,e0,by intro i h hi; omega,rfl⟩ ?_
  clear e0 e0' hn hkk
  rintro T k σ ⟨n,m⟩ hkk ⟨hn,e0,hs,rfl⟩ hN hX hR
  simp only at hn e0
  by_cases hk:k < w.runs.length
  · obtain ⟨r,hrdef⟩:∃ r,r=w.runs[k]:=⟨_,rfl⟩
    have hmem:r∈w.runs:=by rw [hrdef]; exact List.getElem_mem hk
    have okr:=ok.run r hmem
    have hat:=b3d w r.dag.name (by omega)
    have hda:=d5z (d:=r.dag) c7
    have hrr:=c1c r okr
    have l0:(0:Nat)≠n:=by omega
    have bad:(WR w→False)→∀ σ' H',σ'=[(2,.bool false)]→T .ret σ' H':=fun hb σ' H' e => by
      subst e
      refine hR _ _ ?_
      simp (maxSteps:=1000000) (disch:=omega) only [rg,gD,simprocAttr]
      (refine a0f rfl ?_ ?_<;>simp [pack,lo,loL,V.closed,a0b,a0a,decide_eq_false (show ¬ WR w from hb)])
    unfold wdV at e0 hat
    simp (maxSteps:=1000000) (disch:=omega) only [rg,gD,simprocAttr,show (k:Int) < w.runs.length by omega,a0m hk,← hrdef,rnV,e0]
    refine ⟨_,hat, ?_⟩
    cases hf:fndS (a8z r.dag.name) 0 w.dags with
    | none =>
      rw [hf] at hda
      simp (maxSteps:=1000000) (disch:=omega) only [rg,gD,simprocAttr,ixO,show (-1:Int) < 0 by omega]
      exact bad (fun h => by obtain ⟨g,e,_⟩:=hda.1 (h.runs r hmem).1; cases e) _ _ rfl
    | some g =>
      rw [hf] at hda
      obtain ⟨hg,_,_⟩:=a4k hf
      have hli:=b0s w.dags[g] r.dag (ok.dag _ (List.getElem_mem hg)) ⟨okr.tasks,okr.needs⟩
      simp (maxSteps:=1000000) (disch:=omega) only [rg,gD,simprocAttr,ixO,show ¬ (g:Int) < 0 by omega,e0,a0m hg,a2l]
      refine ⟨_,hli, ?_⟩
      by_cases d2:w.dags[g]=r.dag
      case neg =>
        simp (maxSteps:=1000000) (disch:=omega) only [rg,gD,simprocAttr,decide_eq_false d2]
        exact bad (fun h => by obtain ⟨g',e,hh,e2⟩:=hda.1 (h.runs r hmem).1; simp at e; subst e; exact d2 e2) _ _ rfl
      simp (maxSteps:=1000000) (disch:=omega) only [rg,gD,simprocAttr,decide_eq_true d2]
      refine ⟨_,hrr, ?_⟩
      by_cases d3:RnR r
      case neg =>
        simp (maxSteps:=1000000) (disch:=omega) only [rg,gD,simprocAttr,decide_eq_false d3]
        exact bad (fun h => d3 (h.runs r hmem).2) _ _ rfl
      have hin:r.dag∈w.dags:=hda.2 ⟨g,rfl,hg,d2⟩
      by_cases d4:0 < k
      · have hk1:k - 1 < w.runs.length:=by omega
        have et:((k:Int) - 1).toNat=k - 1:=by omega
        simp (maxSteps:=1000000) (disch:=omega) only [rg,gD,simprocAttr,decide_eq_true d3,show (0:Int) < (k:Int) by omega,e0,et,a0m hk1,rnV,b4p]
        refine ⟨by omega, ?_⟩
        cases d5:ltS w.runs[k - 1].key r.key with
        | false =>
          simp (maxSteps:=1000000) (disch:=omega) only [rg,gD,simprocAttr]
          exact bad (fun h => by
            have:=h.rruns (k - 1) (by rw [a2x]; omega)
            simp only [a1k,List.getElem_map,show k - 1+1=k by omega,← hrdef] at this
            rw [d5] at this; cases this) _ _ rfl
        | true =>
          simp (maxSteps:=1000000) (disch:=omega) only [rg,gD,simprocAttr]
          refine hN _ _ hk ⟨by show 1≤n+1; omega,(by simp (disch:=omega) only [a0d,a0c,wo_0,wo_1,wo_2,e0,wdV]),fun i h hi => ?_,rfl⟩
          by_cases e:i=k
          · subst e; rw [← hrdef]; exact ⟨⟨hin,d3⟩,fun _ => d5⟩
          · exact hs i h (by omega)
      · simp (maxSteps:=1000000) (disch:=omega) only [rg,gD,simprocAttr,decide_eq_true d3,show ¬ (0:Int) < (k:Int) by omega]
        refine hN _ _ hk ⟨by show 1≤n+1; omega,(by simp (disch:=omega) only [a0d,a0c,wo_0,wo_1,wo_2,e0,wdV]),fun i h hi => ?_,rfl⟩
        by_cases e:i=k
        · subst e; rw [← hrdef]; exact ⟨⟨hin,d3⟩,fun h => absurd h d4⟩
        · exact hs i h (by omega)
  obtain rfl:k=w.runs.length:=by omega
  have c8:Rise (a1k w.runs):=fun i hi => by
    rw [a2x] at hi
    have:=(hs (i+1) hi hi).2 (by omega)
    simpa [a1k] using this
  have c10:∀ r∈w.runs,r.dag∈w.dags∧RnR r:=fun r hr => by
    obtain ⟨i,hi,rfl⟩:=List.mem_iff_getElem.1 hr
    exact (hs i hi hi).1
  simp (maxSteps:=1000000) (disch:=omega) only [rg,gD,simprocAttr,Int.lt_irrefl]
  refine hX _ _ _ ?_
  simp (maxSteps:=1000000) (disch:=omega) only [rg,gD,simprocAttr]
  refine a0s ?_
  clear hN hX hR hs
  have e0':=e0
  unfold wdV at e0'
  have hto:=c2c w (by omega) (fun r hr => by have:=(c10 r hr).2.small.2.1; omega)
  have hWR:WR w↔Tk w.token (a2d w.runs):=⟨fun h => h.toks,fun h => ⟨⟨by omega,by omega⟩,⟨by omega,by omega⟩,by omega,by omega,c7,c8,c9,c10,h⟩⟩
  rw [d6s (by omega)] at hWR
  have hpl:(posS (a2d w.runs)).length≤2000000:=by
    have h1:=c0f (a2d w.runs)
    have:∀ l:List Rn,(∀ r∈l,r.states.length≤10)→(a2d l).length≤10*l.length:=by
      intro l
      induction l with
      | nil => intro _; simp [a2d]
      | cons a l ih =>
        intro h
        have h2:=ih (fun r hr => h r (by simp [hr]))
        have h3:=h a (by simp)
        have e:a2d (a::l)=tokS a.states++a2d l:=by simp [a2d]
        rw [e,List.length_append,b5w,List.length_cons]; omega
    have h2:=this w.runs (fun r hr => (c10 r hr).2.small.2.1)
    omega
  generalize posS (a2d w.runs)=P at hto hWR hpl
  unfold wdV at hto
  simp (maxSteps:=1000000) (disch:=omega) only [rg,gD,simprocAttr,e0',a0k]
  refine ⟨_,hto, ?_⟩
  simp (maxSteps:=1000000) (disch:=omega) only [rg,gD,simprocAttr,a2m]
  refine x_it P.length (fun k σ H => 1≤H.n∧H.m 0=some (.arr 4 [wdV w])∧(∀ i (h:i < P.length),i < k→P[i]≤w.token∧∀ j (hj:j < i),P[j]'(by omega)≠P[i]) ∧
    σ=[(1,.ptr 0 0 0),(8,.fsl .loose 1 (vI P)),(120,.fsl .loose 1 (vI P)),(121,.int .i64 (P.length:Int)),(122,.int .i64 (k:Int))]) ⟨hn,e0,by intro i h hi; omega,rfl⟩ ?_
  clear e0 e0' hn hkk
  rintro T k σ ⟨n,m⟩ hkk ⟨hn,e0,hs,rfl⟩ hN hX hR
  simp only at hn e0
  by_cases hk:k < P.length
  case neg =>
    obtain rfl:k=P.length:=by omega
    simp (maxSteps:=1000000) (disch:=omega) only [rg,gD,simprocAttr,Int.lt_irrefl]
    refine hX _ _ _ ?_
    simp (maxSteps:=1000000) (disch:=omega) only [rg,gD,simprocAttr]
    refine a0s ?_
    simp (maxSteps:=1000000) (disch:=omega) only [rg,gD,simprocAttr]
    (refine a0f rfl ?_ ?_<;>simp [pack,lo,loL,V.closed,a0b,a0a,decide_eq_true (hWR.2 fun i h => hs i h h)])
  have bad:(WR w→False)→∀ σ' H',σ'=[(2,.bool false)]→T .ret σ' H':=fun hb σ' H' e => by
    subst e
    refine hR _ _ ?_
    simp (maxSteps:=1000000) (disch:=omega) only [rg,gD,simprocAttr]
    (refine a0f rfl ?_ ?_<;>simp [pack,lo,loL,V.closed,a0b,a0a,decide_eq_false (show ¬ WR w from hb)])
  unfold wdV at e0
  by_cases d1:w.token < P[k]
  · simp (maxSteps:=1000000) (disch:=omega) only [rg,gD,simprocAttr,show (k:Int) < P.length by omega,a3b hk,e0,d1]
    exact bad (fun h => by have:=(hWR.1 h k hk).1; omega) _ _ rfl
  simp (maxSteps:=1000000) (disch:=omega) only [rg,gD,simprocAttr,show (k:Int) < P.length by omega,a3b hk,e0,d1]
  refine x_it k (fun j σ H => 1≤H.n∧H.m 0=some (.arr 4 [wdV w])∧(∀ i (hi:i < j) (hik:i < P.length),P[i]≠P[k]) ∧
    σ=[(1,.ptr 0 0 0),(8,.fsl .loose 1 (vI P)),(9,.int .i64 (k:Int)),(10,.int .i64 P[k]),(11,.int .i64 (j:Int)),(120,.fsl .loose 1 (vI P)),(121,.int .i64 (P.length:Int)),(122,.int .i64 (k:Int))]) ⟨hn,(by simp (disch:=omega) only [a0d,a0c,wo_0,wo_1,wo_2,e0,wdV]),by intro i hi; omega,rfl⟩ ?_
  rintro T2 j σ ⟨n2,m2⟩ hjj ⟨hn2,f0,hs2,rfl⟩ hN2 hX2 hR2
  simp only at hn2 f0
  by_cases hj:j < k
  · have hjP:j < P.length:=by omega
    by_cases d2:P[j]=P[k]
    · simp (maxSteps:=1000000) (disch:=omega) only [rg,gD,simprocAttr,show (j:Int) < (k:Int) by omega,a3b hjP,eq_true d2]
      refine hR2 _ _ ?_
      simp (maxSteps:=1000000) (disch:=omega) only [rg,gD,simprocAttr]
      exact bad (fun h => (hWR.1 h k hk).2 j hj d2) _ _ rfl
    · simp (maxSteps:=1000000) (disch:=omega) only [rg,gD,simprocAttr,show (j:Int) < (k:Int) by omega,a3b hjP,eq_false d2]
      refine hN2 _ _ hj ⟨hn2,f0,fun i hi hik => ?_,rfl⟩
      by_cases e:i=j
      · subst e; exact d2
      · exact hs2 i (by omega) hik
  · obtain rfl:j=k:=by omega
    simp (maxSteps:=1000000) (disch:=omega) only [rg,gD,simprocAttr,Int.lt_irrefl]
    refine hX2 _ _ _ ?_
    simp (maxSteps:=1000000) (disch:=omega) only [rg,gD,simprocAttr]
    refine a0s ?_
    simp (maxSteps:=1000000) (disch:=omega) only [rg,gD,simprocAttr]
    refine hN _ _ hk ⟨hn2,f0,fun i h hi => ?_,rfl⟩
    by_cases e:i=j
    · subst e; exact ⟨by omega,fun q hq => hs2 q hq (by omega)⟩
    · exact hs i h (by omega)
end
def c39:C :=
  (.seq
 (.reg false [p (.alloc 6 (.agg [.int .i64 0,.str [],.int .i64 0,.int .i64 0,.int .i64 0,.fsl .nil 5 []]))] [(0,.v 0),(2,.r 0)])
 (.seq
 (.reg false [p (.mov (.v 0)),
 p (.build [.int .i64 0,.str [],.int .i64 0,.int .i64 0,.int .i64 0,.fsl .nil 5 []] [(0,1,.r 0)]),
 p (.store (some 6) (.v 2) (.r 0))] [(2,.v 2)])
 .ret))
def r39:List RV:=[.c 2 (some 6)]
theorem en39:EnP Tryz.prog 39 5 c39 r39:=a0x (by kernel_rfl) Tryz.func39 (by kernel_rfl) ⟨_,rfl,by kernel_rfl,by kernel_rfl⟩
def c101:C :=
  (.seq
 (.reg false [p (.box 4 (.v 0)),
 p (.box 5 (.v 1)),
 p (.alloc 4 (.agg [.int .i64 0,.int .i64 0,.fsl .nil 2 [],.fsl .nil 5 []]))] [(2,.r 2),(3,.r 1),(4,.r 0)])
 (.seq
 (.reg false [p (.fad 0 (.v 2)),
 p (.load (none) (.r 0)),
 p (.fad 1 (.v 2)),
 p (.load (none) (.r 0)),
 p (.fad 2 (.v 2)),
 p (.load (none) (.r 0)),
 p (.build [.int .i64 0,.int .i64 0,.fsl .nil 2 [],.fsl .nil 5 []] [(0,1,.r 4),(1,1,.r 2),(2,1,.r 0)]),
 p (.alloc 4 (.agg [.int .i64 0,.int .i64 0,.fsl .nil 2 [],.fsl .nil 5 []])),
 p (.store (some 4) (.r 0) (.r 1))] [(2,.v 2),(3,.v 3),(4,.v 4),(5,.r 1)])
 (.seq
 (.reg false [p (.mov (.k (.bool false)))] [(2,.v 2),(3,.v 3),(4,.v 4),(5,.v 5),(6,.r 0)])
 (.seq
 (.seq
 (.reg false [p (.fad 3 (.v 2)),
 p (.load (none) (.r 0)),
 p (.len false (.r 0)),
 p (.mov (.k (.int .i64 0)))] [(3,.v 3),(4,.v 4),(5,.v 5),(6,.v 6),(17,.r 2),(18,.r 1),(19,.r 0)])
 (.block 0
 (.loop
 (.seq
 (.reg false [p (.bin .lss (.v 19) (.v 18))] [(3,.v 3),(4,.v 4),(5,.v 5),(6,.v 6),(17,.v 17),(18,.v 18),(19,.v 19),(20,.r 0)])
 (.seq
 (.cond (.v 20)
 .skip
 (.exit 0))
 (.seq
 (.block 1
 (.seq
 (.reg false [p (.iad 5 (.v 17) (.v 19)),
 p (.load (some 5) (.r 0)),
 p (.alloc 5 (.agg [.str [],.str [],.fsl .nil 4 [],.int .i64 0,.fsl .nil 5 []])),
 p (.store (some 5) (.r 0) (.r 1))] [(3,.v 3),(4,.v 4),(5,.v 5),(6,.v 6),(8,.r 1),(17,.v 17),(18,.v 18),(19,.v 19)])
 (.seq
 (.seq
 (.reg false [p (.mov (.v 6)),
 p (.un .not (.r 0)),
 p (.mov (.r 0)),
 ⟨.fad 0 (.v 8),some (0,true),[]⟩,
 ⟨.load (none) (.r 0),some (1,true),[]⟩,
 ⟨.fad 0 (.v 3),some (2,true),[]⟩,
 ⟨.load (none) (.r 0),some (3,true),[]⟩,
 ⟨.bin .geq (.r 2) (.r 0),some (4,true),[]⟩,
 p (.pick (.r 5) (.r 0) (.k (.bool false)))] [(3,.v 3),(4,.v 4),(5,.v 5),(6,.v 6),(8,.v 8),(17,.v 17),(18,.v 18),(19,.v 19),(31,.r 0)])
 (.cond (.v 31)
 (.seq
 (.reg false [p (.fad 3 (.v 5)),
 p (.load (none) (.r 0)),
 p (.load (some 5) (.v 3)),
 p (.bsl 5 [.r 0]),
 p (.app 5 88 (.r 2) (.r 0)),
 p (.fad 3 (.v 5)),
 p (.store (none) (.r 0) (.r 1))] [(3,.v 3),(4,.v 4),(5,.v 5),(8,.v 8),(17,.v 17),(18,.v 18),(19,.v 19)])
 (.reg false [p (.mov (.k (.bool true)))] [(3,.v 3),(4,.v 4),(5,.v 5),(6,.r 0),(8,.v 8),(17,.v 17),(18,.v 18),(19,.v 19)]))
 .skip))
 (.seq
 (.reg false [p (.fad 0 (.v 8)),
 p (.load (none) (.r 0)),
 p (.fad 0 (.v 3)),
 p (.load (none) (.r 0)),
 p (.bin .neq (.r 2) (.r 0))] [(3,.v 3),(4,.v 4),(5,.v 5),(6,.v 6),(8,.v 8),(17,.v 17),(18,.v 18),(19,.v 19),(42,.r 0)])
 (.cond (.v 42)
 (.reg false [p (.fad 3 (.v 5)),
 p (.load (none) (.r 0)),
 p (.load (some 5) (.v 8)),
 p (.bsl 5 [.r 0]),
 p (.app 5 88 (.r 2) (.r 0)),
 p (.fad 3 (.v 5)),
 p (.store (none) (.r 0) (.r 1))] [(3,.v 3),(4,.v 4),(5,.v 5),(6,.v 6),(17,.v 17),(18,.v 18),(19,.v 19)])
 .skip)))))
 (.reg false [p (.bin .add (.v 19) (.k (.int .i64 1))),
 p (.mov (.r 0))] [(3,.v 3),(4,.v 4),(5,.v 5),(6,.v 6),(17,.v 17),(18,.v 18),(19,.r 0)])))))))
 (.frz
 (.seq
 (.seq
 (.reg false [p (.mov (.v 6)),
 p (.un .not (.r 0))] [(3,.v 3),(4,.v 4),(5,.v 5),(51,.r 0)])
 (.cond (.v 51)
 (.reg false [p (.fad 3 (.v 5)),
 p (.load (none) (.r 0)),
 p (.load (some 5) (.v 3)),
 p (.bsl 5 [.r 0]),
 p (.app 5 88 (.r 2) (.r 0)),
 p (.fad 3 (.v 5)),
 p (.store (none) (.r 0) (.r 1))] [(4,.v 4),(5,.v 5)])
 .skip))
 (.seq
 (.reg false [p (.load (some 4) (.v 5)),
 p (.store (some 4) (.v 4) (.r 0))] [(4,.v 4)])
 .ret)))))))
def r101:List RV:=[.c 4 (some 4)]
theorem en101:EnP Tryz.prog 101 59 c101 r101:=a0x (by kernel_rfl) Tryz.func101 (by kernel_rfl) ⟨_,rfl,by kernel_rfl,by kernel_rfl⟩
def c40:C :=
  (.seq
 (.reg false [p (.box 4 (.v 0)),
 p (.box 2 (.v 1)),
 p (.alloc 4 (.agg [.int .i64 0,.int .i64 0,.fsl .nil 2 [],.fsl .nil 5 []])),
 p (.alloc 6 (.agg [.int .i64 0,.str [],.int .i64 0,.int .i64 0,.int .i64 0,.fsl .nil 5 []]))] [(2,.r 3),(3,.r 2),(4,.r 1),(5,.r 0)])
 (.seq
 (.reg false [p (.load (some 2) (.v 3)),
 p (.call true (.k (.fn 58 [] [])) [.r 0]),
 p (.mov (.r 0))] [(2,.v 2),(3,.v 3),(4,.v 4),(5,.v 5),(6,.r 0)])
 (.seq
 (.seq
 (.reg false [p (.mov (.v 6)),
 p (.bin .neq (.r 0) (.k (.int .i64 0)))] [(2,.v 2),(3,.v 3),(4,.v 4),(5,.v 5),(6,.v 6),(15,.r 0)])
 (.cond (.v 15)
 (.seq
 (.reg true [p (.load (some 4) (.v 2)),
 p (.mov (.v 6)),
 p (.call true (.k (.fn 39 [] [])) [.r 0]),
 p (.store (some 4) (.v 4) (.r 2)),
 p (.store (some 6) (.v 5) (.r 1))] [(4,.v 4),(5,.v 5)])
 .ret)
 .skip))
 (.seq
 (.reg false [p (.load (some 4) (.v 2)),
 p (.fad 0 (.v 3)),
 p (.load (none) (.r 0)),
 p (.call true (.k (.fn 59 [] [])) [.r 2,.r 0]),
 p (.mov (.r 0))] [(2,.v 2),(3,.v 3),(4,.v 4),(5,.v 5),(7,.r 0)])
 (.seq
 (.seq
 (.reg false [p (.mov (.v 7)),
 p (.bin .geq (.r 0) (.k (.int .i64 0)))] [(2,.v 2),(3,.v 3),(4,.v 4),(5,.v 5),(7,.v 7),(24,.r 0)])
 (.cond (.v 24)
 (.seq
 (.seq
 (.reg true [p (.fad 2 (.v 2)),
 p (.load (none) (.r 0)),
 p (.mov (.v 7)),
 p (.iad 2 (.r 1) (.r 0)),
 p (.load (some 2) (.r 0)),
 p (.load (some 2) (.v 3)),
 p (.call true (.k (.fn 60 [] [])) [.r 1,.r 0]),
 p (.un .not (.r 0))] [(2,.v 2),(4,.v 4),(5,.v 5),(32,.r 0)])
 (.cond (.v 32)
 (.seq
 (.reg true [p (.load (some 4) (.v 2)),
 p (.call true (.k (.fn 39 [] [])) [.k (.int .i64 161)]),
 p (.store (some 4) (.v 4) (.r 1)),
 p (.store (some 6) (.v 5) (.r 1))] [(4,.v 4),(5,.v 5)])
 .ret)
 .skip))
 (.seq
 (.reg false [p (.load (some 4) (.v 2)),
 p (.build [.int .i64 0,.str [],.int .i64 0,.int .i64 0,.int .i64 0,.fsl .nil 5 []] []),
 p (.store (some 4) (.v 4) (.r 1)),
 p (.store (some 6) (.v 5) (.r 1))] [(4,.v 4),(5,.v 5)])
 .ret))
 .skip))
 (.seq
 (.seq
 (.reg false [p (.fad 2 (.v 2)),
 p (.load (none) (.r 0)),
 p (.len false (.r 0)),
 p (.bin .geq (.r 0) (.k (.int .i64 16)))] [(2,.v 2),(3,.v 3),(4,.v 4),(5,.v 5),(40,.r 0)])
 (.cond (.v 40)
 (.seq
 (.reg true [p (.load (some 4) (.v 2)),
 p (.call true (.k (.fn 39 [] [])) [.k (.int .i64 2)]),
 p (.store (some 4) (.v 4) (.r 1)),
 p (.store (some 6) (.v 5) (.r 1))] [(4,.v 4),(5,.v 5)])
 .ret)
 .skip))
 (.seq
 (.reg false [p (.fad 0 (.v 2)),
 p (.load (none) (.r 0)),
 p (.fad 1 (.v 2)),
 p (.load (none) (.r 0)),
 p (.fad 3 (.v 2)),
 p (.load (none) (.r 0)),
 p (.build [.int .i64 0,.int .i64 0,.fsl .nil 2 [],.fsl .nil 5 []] [(0,1,.r 4),(1,1,.r 2),(3,1,.r 0)]),
 p (.alloc 4 (.agg [.int .i64 0,.int .i64 0,.fsl .nil 2 [],.fsl .nil 5 []])),
 p (.store (some 4) (.r 0) (.r 1))] [(2,.v 2),(3,.v 3),(4,.v 4),(5,.v 5),(8,.r 1)])
 (.seq
 (.reg false [p (.mov (.k (.bool false)))] [(2,.v 2),(3,.v 3),(4,.v 4),(5,.v 5),(8,.v 8),(9,.r 0)])
 (.seq
 (.seq
 (.reg false [p (.fad 2 (.v 2)),
 p (.load (none) (.r 0)),
 p (.len false (.r 0)),
 p (.mov (.k (.int .i64 0)))] [(3,.v 3),(4,.v 4),(5,.v 5),(8,.v 8),(9,.v 9),(51,.r 2),(52,.r 1),(53,.r 0)])
 (.block 0
 (.loop
 (.seq
 (.reg false [p (.bin .lss (.v 53) (.v 52))] [(3,.v 3),(4,.v 4),(5,.v 5),(8,.v 8),(9,.v 9),(51,.v 51),(52,.v 52),(53,.v 53),(54,.r 0)])
 (.seq
 (.cond (.v 54)
 .skip
 (.exit 0))
 (.seq
 (.block 1
 (.seq
 (.reg false [p (.iad 2 (.v 51) (.v 53)),
 p (.load (some 2) (.r 0)),
 p (.alloc 2 (.agg [.str [],.fsl .nil 4 []])),
 p (.store (some 2) (.r 0) (.r 1))] [(3,.v 3),(4,.v 4),(5,.v 5),(8,.v 8),(9,.v 9),(11,.r 1),(51,.v 51),(52,.v 52),(53,.v 53)])
 (.seq
 (.seq
 (.reg false [p (.mov (.v 9)),
 p (.un .not (.r 0)),
 p (.mov (.r 0)),
 ⟨.fad 0 (.v 11),some (0,true),[]⟩,
 ⟨.load (none) (.r 0),some (1,true),[]⟩,
 ⟨.fad 0 (.v 3),some (2,true),[]⟩,
 ⟨.load (none) (.r 0),some (3,true),[]⟩,
 ⟨.bin .gtr (.r 2) (.r 0),some (4,true),[]⟩,
 p (.pick (.r 5) (.r 0) (.k (.bool false)))] [(3,.v 3),(4,.v 4),(5,.v 5),(8,.v 8),(9,.v 9),(11,.v 11),(51,.v 51),(52,.v 52),(53,.v 53),(65,.r 0)])
 (.cond (.v 65)
 (.seq
 (.reg false [p (.fad 2 (.v 8)),
 p (.load (none) (.r 0)),
 p (.load (some 2) (.v 3)),
 p (.bsl 2 [.r 0]),
 p (.app 2 40 (.r 2) (.r 0)),
 p (.fad 2 (.v 8)),
 p (.store (none) (.r 0) (.r 1))] [(3,.v 3),(4,.v 4),(5,.v 5),(8,.v 8),(11,.v 11),(51,.v 51),(52,.v 52),(53,.v 53)])
 (.reg false [p (.mov (.k (.bool true)))] [(3,.v 3),(4,.v 4),(5,.v 5),(8,.v 8),(9,.r 0),(11,.v 11),(51,.v 51),(52,.v 52),(53,.v 53)]))
 .skip))
 (.reg false [p (.fad 2 (.v 8)),
 p (.load (none) (.r 0)),
 p (.load (some 2) (.v 11)),
 p (.bsl 2 [.r 0]),
 p (.app 2 40 (.r 2) (.r 0)),
 p (.fad 2 (.v 8)),
 p (.store (none) (.r 0) (.r 1))] [(3,.v 3),(4,.v 4),(5,.v 5),(8,.v 8),(9,.v 9),(51,.v 51),(52,.v 52),(53,.v 53)]))))
 (.reg false [p (.bin .add (.v 53) (.k (.int .i64 1))),
 p (.mov (.r 0))] [(3,.v 3),(4,.v 4),(5,.v 5),(8,.v 8),(9,.v 9),(51,.v 51),(52,.v 52),(53,.r 0)])))))))
 (.frz
 (.seq
 (.seq
 (.reg false [p (.mov (.v 9)),
 p (.un .not (.r 0))] [(3,.v 3),(4,.v 4),(5,.v 5),(8,.v 8),(80,.r 0)])
 (.cond (.v 80)
 (.reg false [p (.fad 2 (.v 8)),
 p (.load (none) (.r 0)),
 p (.load (some 2) (.v 3)),
 p (.bsl 2 [.r 0]),
 p (.app 2 40 (.r 2) (.r 0)),
 p (.fad 2 (.v 8)),
 p (.store (none) (.r 0) (.r 1))] [(4,.v 4),(5,.v 5),(8,.v 8)])
 .skip))
 (.seq
 (.reg false [p (.load (some 4) (.v 8)),
 p (.build [.int .i64 0,.str [],.int .i64 0,.int .i64 0,.int .i64 0,.fsl .nil 5 []] []),
 p (.store (some 4) (.v 4) (.r 1)),
 p (.store (some 6) (.v 5) (.r 1))] [(4,.v 4),(5,.v 5)])
 .ret))))))))))))
def r40:List RV:=[.c 4 (some 4),.c 5 (some 6)]
theorem en40:EnP Tryz.prog 40 89 c40 r40:=a0x (by kernel_rfl) Tryz.func40 (by kernel_rfl) ⟨_,rfl,by kernel_rfl,by kernel_rfl⟩
def c41:C :=
  (.seq
 (.reg false [p (.box 4 (.v 0)),
 p (.alloc 4 (.agg [.int .i64 0,.int .i64 0,.fsl .nil 2 [],.fsl .nil 5 []])),
 p (.alloc 6 (.agg [.int .i64 0,.str [],.int .i64 0,.int .i64 0,.int .i64 0,.fsl .nil 5 []]))] [(1,.v 1),(2,.v 2),(3,.r 2),(6,.r 1),(7,.r 0)])
 (.seq
 (.seq
 (.reg false [p (.mov (.v 1)),
 p (.len true (.r 0)),
 p (.bin .lss (.r 0) (.k (.int .i64 1))),
 p (.mov (.r 0)),
 ⟨.mov (.v 1),some (0,false),[]⟩,
 ⟨.len true (.r 0),some (1,false),[]⟩,
 ⟨.bin .gtr (.r 0) (.k (.int .i64 16)),some (2,false),[]⟩,
 p (.pick (.r 3) (.k (.bool true)) (.r 0))] [(1,.v 1),(2,.v 2),(3,.v 3),(6,.v 6),(7,.v 7),(17,.r 0)])
 (.cond (.v 17)
 (.seq
 (.reg true [p (.load (some 4) (.v 3)),
 p (.call true (.k (.fn 39 [] [])) [.k (.int .i64 1)]),
 p (.store (some 4) (.v 6) (.r 1)),
 p (.store (some 6) (.v 7) (.r 1))] [(6,.v 6),(7,.v 7)])
 .ret)
 .skip))
 (.seq
 (.reg false [p (.load (some 4) (.v 3)),
 p (.mov (.v 2)),
 p (.call true (.k (.fn 59 [] [])) [.r 1,.r 0]),
 p (.mov (.r 0))] [(1,.v 1),(2,.v 2),(3,.v 3),(6,.v 6),(7,.v 7),(8,.r 0)])
 (.seq
 (.seq
 (.reg false [p (.mov (.v 8)),
 p (.bin .lss (.r 0) (.k (.int .i64 0)))] [(1,.v 1),(2,.v 2),(3,.v 3),(6,.v 6),(7,.v 7),(8,.v 8),(24,.r 0)])
 (.cond (.v 24)
 (.seq
 (.reg true [p (.load (some 4) (.v 3)),
 p (.call true (.k (.fn 39 [] [])) [.k (.int .i64 161)]),
 p (.store (some 4) (.v 6) (.r 1)),
 p (.store (some 6) (.v 7) (.r 1))] [(6,.v 6),(7,.v 7)])
 .ret)
 .skip))
 (.seq
 (.reg false [p (.load (some 4) (.v 3)),
 p (.mov (.v 1)),
 p (.call true (.k (.fn 46 [] [])) [.r 1,.r 0]),
 p (.mov (.r 0))] [(1,.v 1),(2,.v 2),(3,.v 3),(6,.v 6),(7,.v 7),(8,.v 8),(9,.r 0)])
 (.seq
 (.seq
 (.reg false [p (.mov (.v 9)),
 p (.bin .geq (.r 0) (.k (.int .i64 0)))] [(1,.v 1),(2,.v 2),(3,.v 3),(6,.v 6),(7,.v 7),(8,.v 8),(9,.v 9),(31,.r 0)])
 (.cond (.v 31)
 (.seq
 (.seq
 (.reg false [p (.fad 3 (.v 3)),
 p (.load (none) (.r 0)),
 p (.mov (.v 9)),
 p (.iad 5 (.r 1) (.r 0)),
 p (.fad 1 (.r 0)),
 p (.fad 0 (.r 0)),
 p (.load (none) (.r 0)),
 p (.mov (.v 2)),
 p (.bin .neq (.r 1) (.r 0))] [(3,.v 3),(6,.v 6),(7,.v 7),(40,.r 0)])
 (.cond (.v 40)
 (.seq
 (.reg true [p (.load (some 4) (.v 3)),
 p (.call true (.k (.fn 39 [] [])) [.k (.int .i64 190)]),
 p (.store (some 4) (.v 6) (.r 1)),
 p (.store (some 6) (.v 7) (.r 1))] [(6,.v 6),(7,.v 7)])
 .ret)
 .skip))
 (.seq
 (.reg false [p (.load (some 4) (.v 3)),
 p (.build [.int .i64 0,.str [],.int .i64 0,.int .i64 0,.int .i64 0,.fsl .nil 5 []] []),
 p (.store (some 4) (.v 6) (.r 1)),
 p (.store (some 6) (.v 7) (.r 1))] [(6,.v 6),(7,.v 7)])
 .ret))
 .skip))
 (.seq
 (.seq
 (.reg false [p (.fad 3 (.v 3)),
 p (.load (none) (.r 0)),
 p (.len false (.r 0)),
 p (.bin .geq (.r 0) (.k (.int .i64 64)))] [(1,.v 1),(3,.v 3),(6,.v 6),(7,.v 7),(8,.v 8),(48,.r 0)])
 (.cond (.v 48)
 (.seq
 (.reg true [p (.load (some 4) (.v 3)),
 p (.call true (.k (.fn 39 [] [])) [.k (.int .i64 2)]),
 p (.store (some 4) (.v 6) (.r 1)),
 p (.store (some 6) (.v 7) (.r 1))] [(6,.v 6),(7,.v 7)])
 .ret)
 .skip))
 (.seq
 (.reg true [p (.load (some 4) (.v 3)),
 p (.mov (.v 1)),
 p (.fad 2 (.v 3)),
 p (.load (none) (.r 0)),
 p (.mov (.v 8)),
 p (.iad 2 (.r 1) (.r 0)),
 p (.load (some 2) (.r 0)),
 p (.call true (.k (.fn 102 [] [])) [.r 5,.r 0]),
 p (.call true (.k (.fn 101 [] [])) [.r 7,.r 0]),
 p (.build [.int .i64 0,.str [],.int .i64 0,.int .i64 0,.int .i64 0,.fsl .nil 5 []] []),
 p (.store (some 4) (.v 6) (.r 1)),
 p (.store (some 6) (.v 7) (.r 1))] [(6,.v 6),(7,.v 7)])
 .ret))))))))
def r41:List RV:=[.c 6 (some 4),.c 7 (some 6)]
theorem en41:EnP Tryz.prog 41 61 c41 r41:=a0x (by kernel_rfl) Tryz.func41 (by kernel_rfl) ⟨_,rfl,by kernel_rfl,by kernel_rfl⟩
def c42:C :=
  (.seq
 (.reg false [p (.box 4 (.v 0)),
 p (.alloc 4 (.agg [.int .i64 0,.int .i64 0,.fsl .nil 2 [],.fsl .nil 5 []])),
 p (.alloc 6 (.agg [.int .i64 0,.str [],.int .i64 0,.int .i64 0,.int .i64 0,.fsl .nil 5 []]))] [(1,.r 2),(2,.r 1),(3,.r 0)])
 (.seq
 (.seq
 (.reg false [p (.fad 1 (.v 1)),
 p (.load (none) (.r 0)),
 p (.bin .geq (.r 0) (.k (.int .i64 1099511627776)))] [(1,.v 1),(2,.v 2),(3,.v 3),(12,.r 0)])
 (.cond (.v 12)
 (.seq
 (.reg true [p (.load (some 4) (.v 1)),
 p (.call true (.k (.fn 39 [] [])) [.k (.int .i64 192)]),
 p (.store (some 4) (.v 2) (.r 1)),
 p (.store (some 6) (.v 3) (.r 1))] [(2,.v 2),(3,.v 3)])
 .ret)
 .skip))
 (.seq
 (.seq
 (.reg false [p (.fad 3 (.v 1)),
 p (.load (none) (.r 0)),
 p (.len false (.r 0)),
 p (.mov (.k (.int .i64 0)))] [(1,.v 1),(2,.v 2),(3,.v 3),(16,.r 2),(17,.r 1),(18,.r 0)])
 (.block 0
 (.loop
 (.seq
 (.reg false [p (.bin .lss (.v 18) (.v 17))] [(1,.v 1),(2,.v 2),(3,.v 3),(16,.v 16),(17,.v 17),(18,.v 18),(19,.r 0)])
 (.seq
 (.cond (.v 19)
 .skip
 (.exit 0))
 (.seq
 (.block 1
 (.seq
 (.reg false [p (.iad 5 (.v 16) (.v 18)),
 p (.load (some 5) (.r 0)),
 p (.alloc 5 (.agg [.str [],.str [],.fsl .nil 4 [],.int .i64 0,.fsl .nil 5 []])),
 p (.store (some 5) (.r 0) (.r 1))] [(1,.v 1),(2,.v 2),(3,.v 3),(5,.r 1),(16,.v 16),(17,.v 17),(18,.v 18)])
 (.seq
 (.reg false [p (.load (some 5) (.v 5)),
 p (.fad 0 (.v 1)),
 p (.load (none) (.r 0)),
 p (.fad 1 (.v 1)),
 p (.load (none) (.r 0)),
 p (.bin .add (.r 0) (.k (.int .i64 1))),
 p (.call true (.k (.fn 103 [] [])) [.r 5,.r 3,.r 0]),
 p (.mov (.r 0)),
 p (.ext (.r 0) 0),
 p (.ext (.r 1) 1),
 p (.ext (.r 2) 2),
 p (.alloc 5 (.agg [.str [],.str [],.fsl .nil 4 [],.int .i64 0,.fsl .nil 5 []])),
 p (.store (some 5) (.r 0) (.r 3)),
 p (.mov (.r 3)),
 p (.mov (.r 3))] [(1,.v 1),(2,.v 2),(3,.v 3),(5,.v 5),(6,.r 3),(7,.r 1),(8,.r 0),(16,.v 16),(17,.v 17),(18,.v 18)])
 (.seq
 (.reg false [p (.mov (.v 8)),
 p (.bin .eql (.r 0) (.k (.int .i64 0)))] [(1,.v 1),(2,.v 2),(3,.v 3),(5,.v 5),(6,.v 6),(7,.v 7),(16,.v 16),(17,.v 17),(18,.v 18),(34,.r 0)])
 (.cond (.v 34)
 (.seq
 (.reg false [p (.load (some 4) (.v 1)),
 p (.load (some 5) (.v 6)),
 p (.call true (.k (.fn 101 [] [])) [.r 1,.r 0]),
 p (.alloc 4 (.agg [.int .i64 0,.int .i64 0,.fsl .nil 2 [],.fsl .nil 5 []])),
 p (.store (some 4) (.r 0) (.r 1))] [(1,.v 1),(2,.v 2),(3,.v 3),(5,.v 5),(7,.v 7),(9,.r 1)])
 (.seq
 (.reg false [p (.fad 1 (.v 1)),
 p (.load (none) (.r 0)),
 p (.bin .add (.r 0) (.k (.int .i64 1))),
 p (.fad 1 (.v 9)),
 p (.store (none) (.r 0) (.r 1))] [(1,.v 1),(2,.v 2),(3,.v 3),(5,.v 5),(7,.v 7),(9,.v 9)])
 (.seq
 (.reg true [p (.load (some 4) (.v 9)),
 p (.fad 0 (.v 5)),
 p (.load (none) (.r 0)),
 p (.mov (.v 7)),
 p (.fad 1 (.v 1)),
 p (.load (none) (.r 0)),
 p (.bin .add (.r 0) (.k (.int .i64 1))),
 p (.build [.int .i64 0,.str [],.int .i64 0,.int .i64 0,.int .i64 0,.fsl .nil 5 []] [(1,1,.r 4),(2,1,.r 3),(3,1,.r 0)]),
 ⟨.store (some 4) (.v 2) (.r 7),none,[5,2]⟩,
 p (.store (some 6) (.v 3) (.r 1))] [(2,.v 2),(3,.v 3)])
 .ret)))
 .skip)))))
 (.reg false [p (.bin .add (.v 18) (.k (.int .i64 1))),
 p (.mov (.r 0))] [(1,.v 1),(2,.v 2),(3,.v 3),(16,.v 16),(17,.v 17),(18,.r 0)])))))))
 (.frz
 (.seq
 (.reg true [p (.load (some 4) (.v 1)),
 p (.call true (.k (.fn 39 [] [])) [.k (.int .i64 192)]),
 p (.store (some 4) (.v 2) (.r 1)),
 p (.store (some 6) (.v 3) (.r 1))] [(2,.v 2),(3,.v 3)])
 .ret)))))
def r42:List RV:=[.c 2 (some 4),.c 3 (some 6)]
theorem en42:EnP Tryz.prog 42 53 c42 r42:=a0x (by kernel_rfl) Tryz.func42 (by kernel_rfl) ⟨_,rfl,by kernel_rfl,by kernel_rfl⟩
def c43:C :=
  (.seq
 (.reg false [p (.box 4 (.v 0)),
 p (.alloc 4 (.agg [.int .i64 0,.int .i64 0,.fsl .nil 2 [],.fsl .nil 5 []])),
 p (.alloc 6 (.agg [.int .i64 0,.str [],.int .i64 0,.int .i64 0,.int .i64 0,.fsl .nil 5 []]))] [(1,.v 1),(2,.v 2),(3,.v 3),(4,.r 2),(8,.r 1),(9,.r 0)])
 (.seq
 (.seq
 (.reg false [p (.fad 3 (.v 4)),
 p (.load (none) (.r 0)),
 p (.len false (.r 0)),
 p (.mov (.k (.int .i64 0)))] [(1,.v 1),(2,.v 2),(3,.v 3),(4,.v 4),(8,.v 8),(9,.v 9),(15,.r 2),(16,.r 1),(17,.r 0)])
 (.block 0
 (.loop
 (.seq
 (.reg false [p (.bin .lss (.v 17) (.v 16))] [(1,.v 1),(2,.v 2),(3,.v 3),(4,.v 4),(8,.v 8),(9,.v 9),(15,.v 15),(16,.v 16),(17,.v 17),(18,.r 0)])
 (.seq
 (.cond (.v 18)
 .skip
 (.exit 0))
 (.seq
 (.block 1
 (.seq
 (.reg false [p (.iad 5 (.v 15) (.v 17)),
 p (.load (some 5) (.r 0)),
 p (.alloc 5 (.agg [.str [],.str [],.fsl .nil 4 [],.int .i64 0,.fsl .nil 5 []])),
 p (.store (some 5) (.r 0) (.r 1))] [(1,.v 1),(2,.v 2),(3,.v 3),(4,.v 4),(8,.v 8),(9,.v 9),(11,.r 1),(15,.v 15),(16,.v 16),(17,.v 17)])
 (.seq
 (.seq
 (.reg false [p (.load (some 5) (.v 11)),
 p (.mov (.v 2)),
 p (.call true (.k (.fn 104 [] [])) [.r 1,.r 0]),
 p (.bin .lss (.r 0) (.k (.int .i64 0)))] [(1,.v 1),(2,.v 2),(3,.v 3),(4,.v 4),(8,.v 8),(9,.v 9),(11,.v 11),(15,.v 15),(16,.v 16),(17,.v 17),(24,.r 0)])
 (.cond (.v 24)
 (.exit 1)
 .skip))
 (.seq
 (.reg false [p (.load (some 5) (.v 11)),
 p (.mov (.v 1)),
 p (.fad 0 (.v 4)),
 p (.load (none) (.r 0)),
 p (.mov (.v 2)),
 p (.mov (.v 3)),
 p (.call true (.k (.fn 105 [] [])) [.r 5,.r 4,.r 2,.r 1,.r 0]),
 p (.mov (.r 0)),
 p (.ext (.r 0) 0),
 p (.ext (.r 1) 1),
 p (.alloc 5 (.agg [.str [],.str [],.fsl .nil 4 [],.int .i64 0,.fsl .nil 5 []])),
 p (.store (some 5) (.r 0) (.r 2)),
 p (.mov (.r 2))] [(4,.v 4),(8,.v 8),(9,.v 9),(11,.v 11),(12,.r 2),(13,.r 0)])
 (.seq
 (.seq
 (.reg false [p (.mov (.v 13)),
 p (.bin .neq (.r 0) (.k (.int .i64 0)))] [(4,.v 4),(8,.v 8),(9,.v 9),(11,.v 11),(12,.v 12),(13,.v 13),(36,.r 0)])
 (.cond (.v 36)
 (.seq
 (.reg true [p (.load (some 4) (.v 4)),
 p (.mov (.v 13)),
 p (.call true (.k (.fn 39 [] [])) [.r 0]),
 p (.store (some 4) (.v 8) (.r 2)),
 p (.store (some 6) (.v 9) (.r 1))] [(8,.v 8),(9,.v 9)])
 .ret)
 .skip))
 (.seq
 (.reg true [p (.load (some 4) (.v 4)),
 p (.load (some 5) (.v 12)),
 p (.call true (.k (.fn 101 [] [])) [.r 1,.r 0]),
 p (.fad 0 (.v 11)),
 p (.load (none) (.r 0)),
 p (.build [.int .i64 0,.str [],.int .i64 0,.int .i64 0,.int .i64 0,.fsl .nil 5 []] [(1,1,.r 0)]),
 ⟨.store (some 4) (.v 8) (.r 3),none,[1]⟩,
 p (.store (some 6) (.v 9) (.r 1))] [(8,.v 8),(9,.v 9)])
 .ret))))))
 (.reg false [p (.bin .add (.v 17) (.k (.int .i64 1))),
 p (.mov (.r 0))] [(1,.v 1),(2,.v 2),(3,.v 3),(4,.v 4),(8,.v 8),(9,.v 9),(15,.v 15),(16,.v 16),(17,.r 0)])))))))
 (.frz
 (.seq
 (.reg true [p (.load (some 4) (.v 4)),
 p (.call true (.k (.fn 39 [] [])) [.k (.int .i64 191)]),
 p (.store (some 4) (.v 8) (.r 1)),
 p (.store (some 6) (.v 9) (.r 1))] [(8,.v 8),(9,.v 9)])
 .ret))))
def r43:List RV:=[.c 8 (some 4),.c 9 (some 6)]
theorem en43:EnP Tryz.prog 43 49 c43 r43:=a0x (by kernel_rfl) Tryz.func43 (by kernel_rfl) ⟨_,rfl,by kernel_rfl,by kernel_rfl⟩
def c44:C :=
  (.seq
 (.reg false [p (.box 4 (.v 0)),
 p (.alloc 4 (.agg [.int .i64 0,.int .i64 0,.fsl .nil 2 [],.fsl .nil 5 []])),
 p (.alloc 6 (.agg [.int .i64 0,.str [],.int .i64 0,.int .i64 0,.int .i64 0,.fsl .nil 5 []]))] [(1,.v 1),(2,.r 2),(4,.r 1),(5,.r 0)])
 (.seq
 (.reg false [p (.load (some 4) (.v 2)),
 p (.mov (.v 1)),
 p (.call true (.k (.fn 46 [] [])) [.r 1,.r 0]),
 p (.mov (.r 0))] [(2,.v 2),(4,.v 4),(5,.v 5),(6,.r 0)])
 (.seq
 (.seq
 (.reg false [p (.mov (.v 6)),
 p (.bin .lss (.r 0) (.k (.int .i64 0)))] [(2,.v 2),(4,.v 4),(5,.v 5),(6,.v 6),(13,.r 0)])
 (.cond (.v 13)
 (.seq
 (.reg true [p (.load (some 4) (.v 2)),
 p (.call true (.k (.fn 39 [] [])) [.k (.int .i64 190)]),
 p (.store (some 4) (.v 4) (.r 1)),
 p (.store (some 6) (.v 5) (.r 1))] [(4,.v 4),(5,.v 5)])
 .ret)
 .skip))
 (.seq
 (.reg true [p (.fad 3 (.v 2)),
 p (.load (none) (.r 0)),
 p (.mov (.v 6)),
 p (.iad 5 (.r 1) (.r 0)),
 p (.load (some 5) (.r 0)),
 p (.fad 0 (.v 2)),
 p (.load (none) (.r 0)),
 p (.call true (.k (.fn 106 [] [])) [.r 2,.r 0]),
 p (.mov (.r 0)),
 p (.ext (.r 0) 0),
 p (.ext (.r 1) 1),
 ⟨.alloc 5 (.agg [.str [],.str [],.fsl .nil 4 [],.int .i64 0,.fsl .nil 5 []]),none,[9,7,6,4]⟩,
 p (.store (some 5) (.r 0) (.r 2)),
 p (.mov (.r 2))] [(2,.v 2),(4,.v 4),(5,.v 5),(7,.r 2),(8,.r 0)])
 (.seq
 (.seq
 (.reg false [p (.mov (.v 8)),
 p (.bin .neq (.r 0) (.k (.int .i64 0)))] [(2,.v 2),(4,.v 4),(5,.v 5),(7,.v 7),(8,.v 8),(28,.r 0)])
 (.cond (.v 28)
 (.seq
 (.reg true [p (.load (some 4) (.v 2)),
 p (.mov (.v 8)),
 p (.call true (.k (.fn 39 [] [])) [.r 0]),
 p (.store (some 4) (.v 4) (.r 2)),
 p (.store (some 6) (.v 5) (.r 1))] [(4,.v 4),(5,.v 5)])
 .ret)
 .skip))
 (.seq
 (.reg false [p (.load (some 4) (.v 2)),
 p (.load (some 5) (.v 7)),
 p (.call true (.k (.fn 101 [] [])) [.r 1,.r 0]),
 p (.build [.int .i64 0,.str [],.int .i64 0,.int .i64 0,.int .i64 0,.fsl .nil 5 []] []),
 p (.store (some 4) (.v 4) (.r 1)),
 p (.store (some 6) (.v 5) (.r 1))] [(4,.v 4),(5,.v 5)])
 .ret))))))
def r44:List RV:=[.c 4 (some 4),.c 5 (some 6)]
theorem en44:EnP Tryz.prog 44 36 c44 r44:=a0x (by kernel_rfl) Tryz.func44 (by kernel_rfl) ⟨_,rfl,by kernel_rfl,by kernel_rfl⟩
def c45:C :=
  (.seq
 (.reg false [p (.box 4 (.v 0)),
 p (.alloc 4 (.agg [.int .i64 0,.int .i64 0,.fsl .nil 2 [],.fsl .nil 5 []])),
 p (.alloc 6 (.agg [.int .i64 0,.str [],.int .i64 0,.int .i64 0,.int .i64 0,.fsl .nil 5 []]))] [(1,.v 1),(2,.r 2),(4,.r 1),(5,.r 0)])
 (.seq
 (.seq
 (.reg false [p (.mov (.v 1)),
 p (.bin .lss (.r 0) (.k (.int .i64 0))),
 p (.mov (.r 0)),
 ⟨.mov (.v 1),some (0,false),[]⟩,
 ⟨.bin .gtr (.r 0) (.k (.int .i64 1099511627776)),some (1,false),[]⟩,
 p (.pick (.r 2) (.k (.bool true)) (.r 0))] [(1,.v 1),(2,.v 2),(4,.v 4),(5,.v 5),(11,.r 0)])
 (.cond (.v 11)
 (.seq
 (.reg true [p (.load (some 4) (.v 2)),
 p (.call true (.k (.fn 39 [] [])) [.k (.int .i64 1)]),
 p (.store (some 4) (.v 4) (.r 1)),
 p (.store (some 6) (.v 5) (.r 1))] [(4,.v 4),(5,.v 5)])
 .ret)
 .skip))
 (.seq
 (.seq
 (.reg false [p (.mov (.v 1)),
 p (.fad 0 (.v 2)),
 p (.load (none) (.r 0)),
 p (.bin .gtr (.r 2) (.r 0))] [(1,.v 1),(2,.v 2),(4,.v 4),(5,.v 5),(17,.r 0)])
 (.cond (.v 17)
 (.reg false [p (.mov (.v 1)),
 p (.fad 0 (.v 2)),
 p (.store (none) (.r 0) (.r 1))] [(2,.v 2),(4,.v 4),(5,.v 5)])
 .skip))
 (.seq
 (.reg false [p (.load (some 4) (.v 2)),
 p (.build [.int .i64 0,.str [],.int .i64 0,.int .i64 0,.int .i64 0,.fsl .nil 5 []] []),
 p (.store (some 4) (.v 4) (.r 1)),
 p (.store (some 6) (.v 5) (.r 1))] [(4,.v 4),(5,.v 5)])
 .ret))))
def r45:List RV:=[.c 4 (some 4),.c 5 (some 6)]
theorem en45:EnP Tryz.prog 45 22 c45 r45:=a0x (by kernel_rfl) Tryz.func45 (by kernel_rfl) ⟨_,rfl,by kernel_rfl,by kernel_rfl⟩
def c15:C :=
  (.seq
 (.reg false [p (.box 4 (.v 0)),
 p (.box 8 (.v 1)),
 p (.alloc 4 (.agg [.int .i64 0,.int .i64 0,.fsl .nil 2 [],.fsl .nil 5 []])),
 p (.alloc 6 (.agg [.int .i64 0,.str [],.int .i64 0,.int .i64 0,.int .i64 0,.fsl .nil 5 []]))] [(2,.r 3),(3,.r 2),(4,.r 1),(5,.r 0)])
 (.seq
 (.seq
 (.reg false [p (.load (some 4) (.v 2)),
 p (.call true (.k (.fn 18 [] [])) [.r 0]),
 p (.un .not (.r 0))] [(2,.v 2),(3,.v 3),(4,.v 4),(5,.v 5),(10,.r 0)])
 (.cond (.v 10)
 (.seq
 (.reg true [p (.load (some 4) (.v 2)),
 p (.call true (.k (.fn 39 [] [])) [.k (.int .i64 1)]),
 p (.store (some 4) (.v 4) (.r 1)),
 p (.store (some 6) (.v 5) (.r 1))] [(4,.v 4),(5,.v 5)])
 .ret)
 .skip))
 (.seq
 (.seq
 (.reg false [p (.fad 0 (.v 3)),
 p (.load (none) (.r 0))] [(2,.v 2),(3,.v 3),(4,.v 4),(5,.v 5),(14,.r 0)])
 (.block 0
 (.seq
 (.reg false [p (.bin .eql (.v 14) (.k (.int .i64 1))),
 p (.mov (.r 0))] [(2,.v 2),(3,.v 3),(4,.v 4),(5,.v 5),(14,.v 14),(15,.r 0)])
 (.cond (.v 15)
 (.seq
 (.reg false [p (.load (some 4) (.v 2)),
 p (.fad 6 (.v 3)),
 p (.load (some 2) (.r 0)),
 p (.call true (.k (.fn 40 [] [])) [.r 2,.r 0]),
 p (.ext (.r 0) 0),
 p (.ext (.r 1) 1),
 p (.store (some 4) (.v 4) (.r 1)),
 p (.store (some 6) (.v 5) (.r 1))] [(4,.v 4),(5,.v 5)])
 .ret)
 (.seq
 (.reg false [p (.bin .eql (.v 14) (.k (.int .i64 2))),
 p (.mov (.r 0))] [(2,.v 2),(3,.v 3),(4,.v 4),(5,.v 5),(14,.v 14),(23,.r 0)])
 (.cond (.v 23)
 (.seq
 (.reg false [p (.load (some 4) (.v 2)),
 p (.fad 1 (.v 3)),
 p (.load (none) (.r 0)),
 p (.fad 2 (.v 3)),
 p (.load (none) (.r 0)),
 p (.call true (.k (.fn 41 [] [])) [.r 4,.r 2,.r 0]),
 p (.ext (.r 0) 0),
 p (.ext (.r 1) 1),
 p (.store (some 4) (.v 4) (.r 1)),
 p (.store (some 6) (.v 5) (.r 1))] [(4,.v 4),(5,.v 5)])
 .ret)
 (.seq
 (.reg false [p (.bin .eql (.v 14) (.k (.int .i64 3))),
 p (.mov (.r 0))] [(2,.v 2),(3,.v 3),(4,.v 4),(5,.v 5),(14,.v 14),(33,.r 0)])
 (.cond (.v 33)
 (.seq
 (.reg false [p (.load (some 4) (.v 2)),
 p (.call true (.k (.fn 42 [] [])) [.r 0]),
 p (.ext (.r 0) 0),
 p (.ext (.r 1) 1),
 p (.store (some 4) (.v 4) (.r 1)),
 p (.store (some 6) (.v 5) (.r 1))] [(4,.v 4),(5,.v 5)])
 .ret)
 (.seq
 (.reg false [p (.bin .eql (.v 14) (.k (.int .i64 4))),
 p (.mov (.r 0))] [(2,.v 2),(3,.v 3),(4,.v 4),(5,.v 5),(14,.v 14),(39,.r 0)])
 (.cond (.v 39)
 (.seq
 (.reg false [p (.load (some 4) (.v 2)),
 p (.fad 3 (.v 3)),
 p (.load (none) (.r 0)),
 p (.call true (.k (.fn 43 [] [])) [.r 2,.k (.int .i64 0),.r 0,.k (.str [])]),
 p (.ext (.r 0) 0),
 p (.ext (.r 1) 1),
 p (.store (some 4) (.v 4) (.r 1)),
 p (.store (some 6) (.v 5) (.r 1))] [(4,.v 4),(5,.v 5)])
 .ret)
 (.seq
 (.reg false [p (.bin .eql (.v 14) (.k (.int .i64 5))),
 p (.mov (.r 0))] [(2,.v 2),(3,.v 3),(4,.v 4),(5,.v 5),(14,.v 14),(47,.r 0)])
 (.cond (.v 47)
 (.seq
 (.reg false [p (.load (some 4) (.v 2)),
 p (.fad 3 (.v 3)),
 p (.load (none) (.r 0)),
 p (.fad 5 (.v 3)),
 p (.load (none) (.r 0)),
 p (.call true (.k (.fn 43 [] [])) [.r 4,.k (.int .i64 1),.r 2,.r 0]),
 p (.ext (.r 0) 0),
 p (.ext (.r 1) 1),
 p (.store (some 4) (.v 4) (.r 1)),
 p (.store (some 6) (.v 5) (.r 1))] [(4,.v 4),(5,.v 5)])
 .ret)
 (.seq
 (.reg false [p (.bin .eql (.v 14) (.k (.int .i64 6))),
 p (.mov (.r 0))] [(2,.v 2),(3,.v 3),(4,.v 4),(5,.v 5),(14,.v 14),(57,.r 0)])
 (.cond (.v 57)
 (.seq
 (.reg false [p (.load (some 4) (.v 2)),
 p (.fad 3 (.v 3)),
 p (.load (none) (.r 0)),
 p (.call true (.k (.fn 43 [] [])) [.r 2,.k (.int .i64 2),.r 0,.k (.str [])]),
 p (.ext (.r 0) 0),
 p (.ext (.r 1) 1),
 p (.store (some 4) (.v 4) (.r 1)),
 p (.store (some 6) (.v 5) (.r 1))] [(4,.v 4),(5,.v 5)])
 .ret)
 (.seq
 (.reg false [p (.bin .eql (.v 14) (.k (.int .i64 7))),
 p (.mov (.r 0))] [(2,.v 2),(3,.v 3),(4,.v 4),(5,.v 5),(14,.v 14),(65,.r 0)])
 (.cond (.v 65)
 (.seq
 (.reg false [p (.load (some 4) (.v 2)),
 p (.fad 1 (.v 3)),
 p (.load (none) (.r 0)),
 p (.call true (.k (.fn 44 [] [])) [.r 2,.r 0]),
 p (.ext (.r 0) 0),
 p (.ext (.r 1) 1),
 p (.store (some 4) (.v 4) (.r 1)),
 p (.store (some 6) (.v 5) (.r 1))] [(4,.v 4),(5,.v 5)])
 .ret)
 (.seq
 (.reg false [p (.bin .eql (.v 14) (.k (.int .i64 8))),
 p (.mov (.r 0))] [(2,.v 2),(3,.v 3),(4,.v 4),(5,.v 5),(14,.v 14),(73,.r 0)])
 (.cond (.v 73)
 (.seq
 (.reg false [p (.load (some 4) (.v 2)),
 p (.fad 4 (.v 3)),
 p (.load (none) (.r 0)),
 p (.call true (.k (.fn 45 [] [])) [.r 2,.r 0]),
 p (.ext (.r 0) 0),
 p (.ext (.r 1) 1),
 p (.store (some 4) (.v 4) (.r 1)),
 p (.store (some 6) (.v 5) (.r 1))] [(4,.v 4),(5,.v 5)])
 .ret)
 (.seq
 (.reg false [p (.bin .eql (.v 14) (.k (.int .i64 9))),
 p (.mov (.r 0))] [(2,.v 2),(3,.v 3),(4,.v 4),(5,.v 5),(14,.v 14),(81,.r 0)])
 (.cond (.v 81)
 (.seq
 (.reg false [p (.load (some 4) (.v 2)),
 p (.fad 1 (.v 3)),
 p (.load (none) (.r 0)),
 p (.call true (.k (.fn 46 [] [])) [.r 2,.r 0]),
 p (.mov (.r 0))] [(2,.v 2),(4,.v 4),(5,.v 5),(6,.r 0)])
 (.seq
 (.seq
 (.reg false [p (.mov (.v 6)),
 p (.bin .lss (.r 0) (.k (.int .i64 0)))] [(2,.v 2),(4,.v 4),(5,.v 5),(6,.v 6),(88,.r 0)])
 (.cond (.v 88)
 (.seq
 (.reg true [p (.load (some 4) (.v 2)),
 p (.call true (.k (.fn 39 [] [])) [.k (.int .i64 190)]),
 p (.store (some 4) (.v 4) (.r 1)),
 p (.store (some 6) (.v 5) (.r 1))] [(4,.v 4),(5,.v 5)])
 .ret)
 .skip))
 (.seq
 (.reg true [p (.fad 3 (.v 2)),
 p (.load (none) (.r 0)),
 p (.mov (.v 6)),
 p (.iad 5 (.r 1) (.r 0)),
 p (.load (some 5) (.r 0)),
 p (.fad 0 (.v 2)),
 p (.load (none) (.r 0)),
 p (.call true (.k (.fn 47 [] [])) [.r 2,.r 0]),
 ⟨.alloc 5 (.agg [.str [],.str [],.fsl .nil 4 [],.int .i64 0,.fsl .nil 5 []]),none,[6,4,3,1]⟩,
 p (.store (some 5) (.r 0) (.r 1))] [(2,.v 2),(4,.v 4),(5,.v 5),(7,.r 1)])
 (.seq
 (.reg true [p (.load (some 4) (.v 2)),
 p (.fad 0 (.v 7)),
 p (.load (none) (.r 0)),
 p (.fad 3 (.v 7)),
 p (.load (none) (.r 0)),
 p (.fad 4 (.v 7)),
 p (.load (none) (.r 0)),
 p (.build [.int .i64 0,.str [],.int .i64 0,.int .i64 0,.int .i64 0,.fsl .nil 5 []] [(1,1,.r 4),(4,1,.r 2),(5,1,.r 0)]),
 ⟨.store (some 4) (.v 4) (.r 7),none,[5,3,1]⟩,
 p (.store (some 6) (.v 5) (.r 1))] [(4,.v 4),(5,.v 5)])
 .ret))))
 (.seq
 (.reg false [p (.bin .eql (.v 14) (.k (.int .i64 10))),
 p (.mov (.r 0))] [(2,.v 2),(4,.v 4),(5,.v 5),(107,.r 0)])
 (.cond (.v 107)
 (.seq
 (.reg false [p (.load (some 4) (.v 2)),
 p (.build [.int .i64 0,.str [],.int .i64 0,.int .i64 0,.int .i64 0,.fsl .nil 5 []] []),
 p (.store (some 4) (.v 4) (.r 1)),
 p (.store (some 6) (.v 5) (.r 1))] [(4,.v 4),(5,.v 5)])
 .ret)
 .skip))))))))))))))))))))))
 (.seq
 (.reg true [p (.load (some 4) (.v 2)),
 p (.call true (.k (.fn 39 [] [])) [.k (.int .i64 230)]),
 p (.store (some 4) (.v 4) (.r 1)),
 p (.store (some 6) (.v 5) (.r 1))] [(4,.v 4),(5,.v 5)])
 .ret))))
def r15:List RV:=[.c 4 (some 4),.c 5 (some 6)]
theorem en15:EnP Tryz.prog 15 113 c15 r15:=a0x (by kernel_rfl) Tryz.func15 (by kernel_rfl) ⟨_,rfl,by kernel_rfl,by kernel_rfl⟩
section
def whyA (e:Int):Ans:=⟨e,[],0,0,0,[]⟩
def waV (p:Wd×Ans):V:=.tup [wdV p.1,ansV p.2]
abbrev lbD (t:Str) (l:List Dag):Nat:=lbS t (a1j l)
abbrev lbR (t:Str) (l:List Rn):Nat:=lbS t (a1k l)
def putD (l:List Dag) (d:Dag):List Dag:=l.take (lbD d.name l)++d::l.drop (lbD d.name l)
def putR (l:List Rn) (r:Rn):List Rn:=l.take (lbR r.key l)++r::l.drop (lbR r.key l+if r.key∈a1k l then 1 else 0)
theorem d7r {l:List Str} (hr:Rise l) (t:Str):lbS t l≤l.length:=(a6z hr t).le
theorem d5e {K:List Str} (hr:Rise K) {g:Nat} (hg:g < K.length):lbS K[g] K=g:=by
  refine (IsLb.eq ⟨by omega,fun j hj hjg => a4d hr g j hg hjg,fun j hj hgj => ?_⟩).symm
  by_cases e:j=g
  · subst e; exact a7y _
  · exact c3k (a4d hr j g hj (by omega))
theorem d1e {l:List Dag} (hr:Rise (a1j l)) (t:Str):fndS (a8z t) 0 l=if t∈a1j l then some (lbD t l) else none:=by
  cases hf:fndS (a8z t) 0 l with
  | none =>
    have h:=a9n hf
    rw [if_neg]
    intro hm
    obtain ⟨d,hd,rfl⟩:=List.mem_map.1 hm
    have:=h d hd
    simp [a8z] at this
  | some g =>
    obtain ⟨hg,h1,_⟩:=a4k hf
    simp only [a8z,decide_eq_true_eq] at h1
    have hg':g < (a1j l).length:=by rw [a1y]; exact hg
    have e:(a1j l)[g]=t:=by rw [a8x]; exact h1
    have:=d5e hr hg'
    rw [e] at this
    rw [if_pos (e ▸ List.getElem_mem hg')]; exact congrArg some this.symm
theorem b3b {l:List Dag} (hr:Rise (a1j l)) {t:Str} (h:t∈a1j l):∃ h:lbD t l < l.length,l[lbD t l].name=t:=by
  obtain ⟨h2,h3⟩:=((a6z hr t).mem hr).1 h
  rw [a8x] at h3
  exact ⟨by rw [a1y] at h2; exact h2,h3⟩
theorem b8a {l:List Rn} (hr:Rise (a1k l)) (t:Str):fndS (keyP t) 0 l=if t∈a1k l then some (lbR t l) else none:=by
  cases hf:fndS (keyP t) 0 l with
  | none =>
    have h:=a9n hf
    rw [if_neg]
    intro hm
    obtain ⟨d,hd,rfl⟩:=List.mem_map.1 hm
    have:=h d hd
    simp [keyP] at this
  | some g =>
    obtain ⟨hg,h1,_⟩:=a4k hf
    simp only [keyP,decide_eq_true_eq] at h1
    have hg':g < (a1k l).length:=by rw [a2x]; exact hg
    have e:(a1k l)[g]=t:=by rw [a6p]; exact h1
    have:=d5e hr hg'
    rw [e] at this
    rw [if_pos (e ▸ List.getElem_mem hg')]; exact congrArg some this.symm
theorem a6j {l:List Rn} (hr:Rise (a1k l)) {t:Str} (h:t∈a1k l):∃ h:lbR t l < l.length,l[lbR t l].key=t:=by
  obtain ⟨h2,h3⟩:=((a6z hr t).mem hr).1 h
  rw [a6p] at h3
  exact ⟨by rw [a2x] at h2; exact h2,h3⟩
theorem d1y {l:List Rn} (hr:Rise (a1k l)) {i:Nat} (hi:i < l.length):lbR l[i].key l=i∧l[i].key∈a1k l:=by
  have hi':i < (a1k l).length:=by rw [a2x]; exact hi
  have:=d5e hr hi'
  rw [a6p] at this
  exact ⟨this,List.mem_map.2 ⟨_,List.getElem_mem hi,rfl⟩⟩
theorem b8c {l:List Rn} (hr:Rise (a1k l)) {i:Nat} (hi:i < l.length) {x:Rn} (hx:x.key=l[i].key):putR l x=l.set i x:=by
  obtain ⟨h1,h2⟩:=d1y hr hi
  unfold putR
  rw [hx,h1,if_pos h2,List.set_eq_take_append_cons_drop,if_pos hi]
open Classical in
noncomputable def a2t (w:Wd) (d:Dag):Wd×Ans :=
  if a0t d≠0 then (w,whyA (a0t d)) else if d.name∈a1j w.dags then (if d∈w.dags then (w,whyA 0) else (w,whyA 161))
  else if 16≤w.dags.length then (w,whyA 2) else ({ w with dags:=putD w.dags d },whyA 0)
def zD:Dag:=⟨[],[]⟩
open Classical in
noncomputable def a5i (w:Wd) (key name:Str):Wd×Ans :=
  if key.length < 1∨16 < key.length then (w,whyA 1) else if name∉a1j w.dags then (w,whyA 161)
  else if key∈a1k w.runs then (if (w.runs.getD (lbR key w.runs) zR).dag.name≠name then (w,whyA 190) else (w,whyA 0))
  else if 64≤w.runs.length then (w,whyA 2) else ({ w with runs:=putR w.runs (newS key (w.dags.getD (lbD name w.dags) zD)) },whyA 0)
def a5v (now token:Int) (r:Rn):Bool:=decide ((a3a now token r).2.2=0)
def a5s (w:Wd):Wd×Ans :=
  if MT≤w.token then (w,whyA 192) else match fndS (a5v w.now (w.token+1)) 0 w.runs with
  | none => (w,whyA 192)
  | some i => ({ w with token:=w.token+1,runs:=w.runs.set i (a3a w.now (w.token+1) (w.runs.getD i zR)).1 },
      ⟨0,(w.runs.getD i zR).key,(a3a w.now (w.token+1) (w.runs.getD i zR)).2.1,w.token+1,0,[]⟩)
def hasP (token:Int) (r:Rn):Bool:=r.states.any (a4l token)
def a3e (w:Wd) (f:Task→Stt→Stt×Int) (token:Int):Wd×Ans :=
  match fndS (hasP token) 0 w.runs with
  | none => (w,whyA 191)
  | some i => if (a3k w.now f token (w.runs.getD i zR)).2≠0 then (w,whyA (a3k w.now f token (w.runs.getD i zR)).2)
    else ({ w with runs:=w.runs.set i (a3k w.now f token (w.runs.getD i zR)).1 },⟨0,(w.runs.getD i zR).key,0,0,0,[]⟩)
open Classical in
noncomputable def a3n (w:Wd) (key:Str):Wd×Ans :=
  if key∉a1k w.runs then (w,whyA 190) else if (a2f w.now (w.runs.getD (lbR key w.runs) zR)).2≠0 then (w,whyA (a2f w.now (w.runs.getD (lbR key w.runs) zR)).2)
  else ({ w with runs:=w.runs.set (lbR key w.runs) (a2f w.now (w.runs.getD (lbR key w.runs) zR)).1 },whyA 0)
def a6f (w:Wd) (t:Int):Wd×Ans:=if t < 0∨MT < t then (w,whyA 1) else ({ w with now:=max w.now t },whyA 0)
open Classical in
noncomputable def a5n (w:Wd) (key:Str):Wd×Ans :=
  if key∉a1k w.runs then (w,whyA 190) else (w,⟨0,(a1m w.now (w.runs.getD (lbR key w.runs) zR)).key,0,0,(a1m w.now (w.runs.getD (lbR key w.runs) zR)).is,(a1m w.now (w.runs.getD (lbR key w.runs) zR)).states⟩)
noncomputable def a1u (w:Wd) (c:Cmd):Wd×Ans :=
  if c.kind=1 then a2t w c.dag else if c.kind=2 then a5i w c.key c.name else if c.kind=3 then a5s w
  else if c.kind=4 then a3e w (fun t s => a2y t s w.now) c.token else if c.kind=5 then a3e w (fun t s => a2o s c.text) c.token
  else if c.kind=6 then a3e w (fun t s => a2c t s w.now) c.token else if c.kind=7 then a3n w c.key else if c.kind=8 then a6f w c.time
  else if c.kind=9 then a5n w c.key else if c.kind=10 then (w,whyA 0) else (w,whyA 230)
open Classical in
noncomputable def doS (w:Wd) (c:Cmd):Wd×Ans:=if WR w then a1u w c else (w,whyA 1)
/-! Shapes. -/
theorem c5o {f:Task→Stt→Stt×Int} {token:Int} {q:Rn} (h:(b5i f token q).2=0):(b5i f token q).1.key=q.key:=by
  unfold b5i at h ⊢
  split at h
  · cases h
  · split at h
    · split at h
      · rename_i hz; exact absurd h hz
      · rename_i i _ _ t s _ _ hz
        simp only [hz,if_false]
        exact (a5u _).key.trans (a4f _ _ _).key
    · cases h
theorem b9u {now token:Int} {f:Task→Stt→Stt×Int} {r:Rn} (h:(a3k now f token r).2=0):(a3k now f token r).1.key=r.key :=
  (c5o h).trans (a3h now r).key
theorem c1g {now:Int} {r:Rn} (h:(a2f now r).2=0):(a2f now r).1.key=r.key:=by
  unfold a2f a6x at h ⊢
  split at h
  · cases h
  · rename_i hz; rw [if_neg hz]; exact (a3h now r).key
theorem b6c {now token:Int} {r:Rn} (hlen:r.states.length=r.dag.tasks.length) (h:(a3a now token r).2.2=0):(a3a now token r).1.key=r.key:=by
  have hs:=a3h now r
  unfold a3a a4g at h ⊢
  split at h
  · cases h
  split at h
  · cases h
  split at h
  · cases h
  rename_i h1 h2 h3
  rw [if_neg h1,if_neg h2,if_neg h3]
  split at h
  · rename_i i hi
    simp only [hi]
    obtain ⟨hg,_,_⟩:=a4k hi
    rw [a6h (by rw [hs.dag,← hlen,← hs.len]; exact hg) hg]
    exact (a4f _ _ _).key.trans hs.key
  · cases h
end
theorem Gro.ne {lo n:Nat} {m:Hm} {sz:Nat} {v:V} {l:List V} (h:Gro lo n m sz v l) {i:Nat} (hi:n≤i):∀ o q,v≠.sl i o q:=by
  intro o q e
  rcases h with ⟨st,_,rfl,_⟩ | ⟨id,h1,h2,rfl,_⟩
  · cases e
  · cases e; omega
theorem b7g {α:Type} {l:List α} {k i:Nat} (hk:k < l.length) (hi:i≤k):(l.take (k+1)).drop i=(l.take k).drop i++[l[k]]:=by
  rw [List.take_succ_eq_append_getElem hk,List.drop_append_of_le_length (by simp; omega)]
def outS {α:Type} (l:List α) (x:α) (i e k:Nat):List α:=if k≤i then l.take k else l.take i++x::(l.take k).drop (i+e)
theorem b9d {α:Type} (l:List α) (x:α) (i e k:Nat):(outS l x i e k).length≤l.length+1:=by
  unfold outS; split
  · simp; omega
  · simp only [List.length_append,List.length_take,List.length_cons,List.length_drop]; omega
theorem b9j {α:Type} {l:List α} {x:α} {i e:Nat}:(if l.length≤i then outS l x i e l.length++[x] else outS l x i e l.length)=l.take i++x::l.drop (i+e):=by
  unfold outS
  split
  · rename_i h
    rw [List.take_length,List.take_of_length_le h,List.drop_eq_nil_of_le (by omega)]
  · rename_i h
    rw [List.take_length]
theorem c6j {α:Type} {l:List α} {x:α} {i e k:Nat} (hk:k < l.length) (h:k < i):outS l x i e (k+1)=outS l x i e k++[l[k]]:=by
  unfold outS
  rw [if_pos (show k+1≤i from h),if_pos (Nat.le_of_lt h),List.take_succ_eq_append_getElem hk]
theorem c8y {α:Type} {l:List α} {x:α} {k:Nat} (hk:k < l.length):outS l x k 1 (k+1)=outS l x k 1 k++[x]:=by
  unfold outS
  rw [if_neg (by omega),if_pos (Nat.le_refl k),List.drop_eq_nil_of_le (by rw [List.length_take]; omega)]
theorem c0s {α:Type} {l:List α} {x:α} {k:Nat} (hk:k < l.length):outS l x k 0 (k+1)=outS l x k 0 k++[x]++[l[k]]:=by
  unfold outS
  rw [if_neg (by omega),if_pos (Nat.le_refl k),Nat.add_zero,b7g hk (Nat.le_refl k),List.drop_eq_nil_of_le (by rw [List.length_take]; omega)]
  simp
theorem c5e {α:Type} {l:List α} {x:α} {i e k:Nat} (hk:k < l.length) (h:i < k) (he:e≤1):outS l x i e (k+1)=outS l x i e k++[l[k]]:=by
  unfold outS
  rw [if_neg (by omega),if_neg (by omega),b7g hk (by omega)]
  simp
theorem b7h {α:Type} {l:List α} {x:α} {i e:Nat}:outS l x i e 0=[]:=by simp [outS]
def wdT (w:Wd) (v:V):V:=.agg [.int .i64 w.now,.int .i64 w.token,.fsl .loose 2 (mv dagV w.dags),v]
theorem a2v (e:Int):PCall Tryz.prog 39 [.int .i64 e] (ansV (whyA e)):=by
  refine en39 (by simp) (by simp [a0b,V.closed]) ?_
  simp (maxSteps:=1000000) (disch:=omega) only [rg,gD,simprocAttr,c39]
  (refine a0f rfl ?_ ?_<;>simp [pack,lo,loL,V.closed,a0b,a0a,ansV,whyA,a0h,mv])
theorem a6l (w:Wd) (r:Rn) (hl:w.runs.length≤1000) (hr:Rise (a1k w.runs)):PCall Tryz.prog 101 [wdV w,rnV r] (wdV { w with runs:=putR w.runs r }):=by
  have hlb:=a6z hr r.key
  obtain ⟨i,hi⟩:∃ i,i=lbR r.key w.runs:=⟨_,rfl⟩
  obtain ⟨e,he⟩:∃ e,e=if r.key∈a1k w.runs then 1 else 0:=⟨_,rfl⟩
  have he1:e≤1:=by rw [he]; split<;>omega
  have hput:putR w.runs r=w.runs.take i++r::w.runs.drop (i+e):=by rw [hi,he]; rfl
  have hend:=b9j (l:=w.runs) (x:=r) (i:=i) (e:=e)
  rw [← hput] at hend
  have hb1:∀ k (hk:k < w.runs.length),k < i→ltS w.runs[k].key r.key=true:=fun k hk h => by
    have:=hlb.lo k (by rw [a2x]; exact hk) (by rw [hi] at h; exact h)
    rwa [a6p] at this
  have hb2:∀ k (hk:k < w.runs.length),i≤k→ltS w.runs[k].key r.key=false:=fun k hk h => by
    have:=hlb.hi k (by rw [a2x]; exact hk) (by rw [hi] at h; exact h)
    rwa [a6p] at this
  have hb3:∀ k (hk:k < w.runs.length),w.runs[k].key=r.key→k=i∧e=1:=fun k hk h => by
    have:=d1y hr hk
    rw [h] at this
    exact ⟨by rw [hi]; exact this.1.symm,by rw [he,if_pos this.2]⟩
  have hb4:∀ (hk:i < w.runs.length),e=1→w.runs[i].key=r.key:=fun hk h => by
    have hm:r.key∈a1k w.runs:=by
      apply Classical.byContradiction
      intro hc
      rw [he,if_neg hc] at h; cases h
    have:=(a6j hr hm).2
    simp only [← hi] at this
    exact this
  refine en101 (by simp) (by simp [a0b,a1n,a0g]) ?_
  simp (maxSteps:=1000000) (disch:=omega) only [rg,gD,simprocAttr,c101,wdV,a0k]
  refine ⟨⟨rfl,rfl⟩, ?_⟩
  refine x_it w.runs.length (fun k σ H => 4≤H.n∧H.m 1=some (.arr 5 [rnV r])∧H.m 2=some (.arr 4 [V.agg [V.int .i64 0,V.int .i64 0,V.fsl .nil 2 [],V.fsl .nil 5 []]])∧(∃ v,H.m 3=some (.arr 4 [wdT w v])∧Gro 4 H.n H.m 5 v (mv rnV (outS w.runs r i e k))) ∧
    σ=[(3,.ptr 1 0 0),(4,.ptr 2 0 0),(5,.ptr 3 0 0),(6,.bool (decide (i < k))),(17,.fsl .loose 5 (mv rnV w.runs)),(18,.int .i64 (w.runs.length:Int)),(19,.int .i64 (k:Int))]) ?_ ?_
  · refine ⟨Nat.le_refl 4,by simp [upd],by simp [upd],⟨.fsl .nil 5 [],by simp [upd,wdT], ?_⟩,by simp⟩
    rw [b7h]; exact Gro.nil
  rintro T k σ ⟨n,m⟩ hkk ⟨hn,e1,e2,⟨v,e3,hg⟩,rfl⟩ hN hX hR
  simp only at hn e1 e2 e3 hg
  have hol:=b9d w.runs r i e k
  by_cases hk:k < w.runs.length
  case neg =>
    obtain rfl:k=w.runs.length:=by omega
    simp (maxSteps:=1000000) (disch:=omega) only [rg,gD,simprocAttr,Int.lt_irrefl]
    refine hX _ _ _ ?_
    simp (maxSteps:=1000000) (disch:=omega) only [rg,gD,simprocAttr]
    refine a0s ?_
    have fin1:∀ (n':Nat) (m':Hm) (v':V),m' 2=some (.arr 4 [wdT w v'])→Gro 4 n' m' 5 v' (mv rnV (putR w.runs r))→Fin r101 (wdV { w with runs:=putR w.runs r }) .ret [(4,.ptr 2 0 0)] ⟨n',m'⟩:=fun n' m' v' f2 hg' => by
      unfold wdT at f2
      obtain ⟨st,hs⟩:=hg'.snap (a0a a0g) 2
      refine b2t (v:=.agg [.int .i64 w.now,.int .i64 w.token,.fsl .loose 2 (mv dagV w.dags),.fsl st 5 (mv rnV (putR w.runs r))]) (l:=[.agg [.int .i64 w.now,.int .i64 w.token,.fsl .loose 2 (mv dagV w.dags),v']])
        (by simp only [r101,resE,find,a2i,f2,reduceIte]; rfl) ?_ (by simp [lo,loL,wdV,a0l a0y,a0l a1i])
      exact a4t (a4r (a:=[.int .i64 w.now,.int .i64 w.token,.fsl .loose 2 (mv dagV w.dags)]) (b:=[v']) (a0z (by simp [a0b,V.closed,a0a a0i])) (by simp [mapO,hs]))
    unfold wdV at fin1
    unfold wdT at e3
    by_cases hin:i < w.runs.length
    · rw [if_neg (by omega)] at hend
      rw [hend] at hg
      simp (maxSteps:=1000000) (disch:=omega) only [rg,gD,simprocAttr,decide_eq_true hin,e2,e3]
      exact fin1 _ _ v (by simp (disch:=omega) only [a0d,a0c,wo_0,wo_1,wo_2,wdT]) (hg.keep (Nat.le_refl n) (fun id h1 h2 => by simp only [upd]; rw [if_neg (by omega)]))
    · rw [if_pos (by omega)] at hend
      simp (maxSteps:=1000000) (disch:=omega) only [rg,gD,simprocAttr,decide_eq_false hin,e1,e3,a1e]
      refine ⟨⟨rfl,rfl⟩, ?_⟩
      refine a4h (lo:=4) (bt:=88) (H:=⟨n,m⟩) hg hn (ys:=[rnV r]) (by rfl) (by simp) (by rw [a0k]; simp; omega) fun v' fp ds hg' hlo hkp => ?_
      have z2:=hlo 2 (by omega)
      have z3:=hlo 3 (by omega)
      simp only at z2 z3 hg' ⊢
      rw [e2] at z2; rw [e3] at z3
      rw [x_nx]
      refine ⟨by simp only [a1t], ?_⟩
      simp only []
      generalize appd ds m=m5 at z2 z3 hg' ⊢
      simp (maxSteps:=1000000) (disch:=omega) only [rg,gD,simprocAttr,z2,z3,hg'.cell]
      refine fin1 _ _ v' (by simp (disch:=omega) only [a0d,a0c,wo_0,wo_1,wo_2,wdT]) (Gro.keep (l:=mv rnV (putR w.runs r)) (by rw [← hend,← a5k]; exact hg') (Nat.le_refl _) (fun id h1 h2 => by simp only [upd]; rw [if_neg (by omega),if_neg (by omega)]))
  have hgk:∀ x:Option Ob,∀ y:Option Ob,Gro 4 (n+1) (upd (upd m n x) n y) 5 v (mv rnV (outS w.runs r i e k)):=fun x y => hg.keep (by omega) (fun id h1 h2 => by simp only [upd]; rw [if_neg (by omega),if_neg (by omega)])
  have hne:=hg.ne (Nat.le_refl n)
  unfold wdT at e3
  have l1:(1:Nat)≠n:=by omega
  have l2:(2:Nat)≠n:=by omega
  have l3:(3:Nat)≠n:=by omega
  have fin2:∀ (n':Nat) (m':Hm) (v':V) (b:Bool),4≤n'→m' 1=some (.arr 5 [rnV r])→m' 2=some (.arr 4 [V.agg [V.int .i64 0,V.int .i64 0,V.fsl .nil 2 [],V.fsl .nil 5 []]])→m' 3=some (.arr 4 [wdT w v'])→Gro 4 n' m' 5 v' (mv rnV (outS w.runs r i e (k+1)))→b=decide (i < k+1) →
      ∀ σ',σ'=[(3,.ptr 1 0 0),(4,.ptr 2 0 0),(5,.ptr 3 0 0),(6,.bool b),(17,.fsl .loose 5 (mv rnV w.runs)),(18,.int .i64 (w.runs.length:Int)),(19,.int .i64 ((k+1:Nat):Int))]→T .norm σ' ⟨n',m'⟩:=fun n' m' v' b a1 a2 a3 a4 a5 hb σ' hσ => by
    subst hb
    exact hN _ _ hk ⟨a1,a2,a3,⟨v',a4,a5⟩,hσ⟩
  rcases Nat.lt_trichotomy k i with hki | hki | hki
  · -- ahead of its place
    have hlt:=hb1 k hk hki
    have hnk:¬ w.runs[k].key=r.key:=fun h => by rw [h,a7y] at hlt; cases hlt
    rw [c6j hk hki] at fin2
    simp (maxSteps:=1000000) (disch:=omega) only [rg,gD,simprocAttr,show (k:Int) < w.runs.length by omega,a0m hk,rnV,e1,e3,decide_eq_false (show ¬ i < k by omega),hlt,eq_false hnk]
    refine a4h (lo:=4) (bt:=88) (hgk _ _) (by simp only []; omega) (ys:=[rnV w.runs[k]]) (by rfl) (by simp) (by rw [a0k]; simp; omega) fun v' fp ds hg' hlo hkp => ?_
    have z1:=hlo 1 (by omega)
    have z2:=hlo 2 (by omega)
    have z3:=hlo 3 (by omega)
    simp (disch:=omega) only [a0c,a0d,e1,e2,e3] at z1 z2 z3
    rw [x_nx]
    refine ⟨by simp only [a1t], ?_⟩
    simp only [] at z1 z2 z3 hg' hkp ⊢
    generalize appd ds _=m5 at z1 z2 z3 hg' ⊢
    simp (maxSteps:=1000000) (disch:=omega) only [rg,gD,simprocAttr,z3,hg'.cell]
    exact fin2 _ _ v' _ (by omega) (by simp (disch:=omega) only [a0d,a0c,wo_0,wo_1,wo_2,z1]) (by simp (disch:=omega) only [a0d,a0c,wo_0,wo_1,wo_2,z2]) (by simp (disch:=omega) only [a0d,a0c,wo_0,wo_1,wo_2,wdT]) (Gro.keep (l:=mv rnV _) (by rw [← a5k]; exact hg') (by omega) (fun id h1 h2 => by simp only [upd]; rw [if_neg (by omega)])) (by simp; omega) _ rfl
  · -- at its place
    subst hki
    have hlt:=hb2 k hk (Nat.le_refl k)
    simp (maxSteps:=1000000) (disch:=omega) only [rg,gD,simprocAttr,show (k:Int) < w.runs.length by omega,a0m hk,rnV,e1,e3,decide_eq_false (Nat.lt_irrefl k),hlt,a1e]
    refine a4h (lo:=4) (bt:=88) (hgk _ _) (by simp only []; omega) (ys:=[rnV r]) (by rfl) (by simp) (by rw [a0k]; simp; omega) fun v' fp ds hg' hlo hkp => ?_
    have z1:=hlo 1 (by omega)
    have z2:=hlo 2 (by omega)
    have z3:=hlo 3 (by omega)
    simp (disch:=omega) only [a0c,a0d,e1,e2,e3] at z1 z2 z3
    rw [x_nx]
    refine ⟨by simp only [a1t], ?_⟩
    simp only [] at z1 z2 z3 hg' hkp ⊢
    have zn:=hkp n (by omega) hne
    simp (disch:=omega) only [a0c,a0d] at zn
    generalize appd ds _=m5 at z1 z2 z3 zn hg' ⊢
    simp (maxSteps:=1000000) (disch:=omega) only [rg,gD,simprocAttr,z1,z3,zn,hg'.cell,rnV]
    by_cases hee:e=1
    · have hkr:=hb4 hk hee
      subst hee
      rw [c8y hk] at fin2
      simp (maxSteps:=1000000) (disch:=omega) only [rg,gD,simprocAttr,eq_true hkr]
      exact fin2 _ _ v' _ (by omega) (by simp (disch:=omega) only [a0d,a0c,wo_0,wo_1,wo_2,z1]) (by simp (disch:=omega) only [a0d,a0c,wo_0,wo_1,wo_2,z2]) (by simp (disch:=omega) only [a0d,a0c,wo_0,wo_1,wo_2,wdT]) (Gro.keep (l:=mv rnV _) (by rw [← a5k]; exact hg') (by omega) (fun id h1 h2 => by simp only [upd]; rw [if_neg (by omega)])) (by simp) _ rfl
    · have hkr:¬ w.runs[k].key=r.key:=fun h => hee (hb3 k hk h).2
      obtain rfl:e=0:=by omega
      rw [c0s hk] at fin2
      simp (maxSteps:=1000000) (disch:=omega) only [rg,gD,simprocAttr,eq_false hkr,zn]
      have hg2:Gro 4 (n+2) (upd m5 3 (some (.arr 4 [wdT w v']))) 5 v' (mv rnV (outS w.runs r k 0 k++[r])):=Gro.keep (l:=mv rnV _) (by rw [← a5k]; exact hg') (by omega) (fun id h1 h2 => by simp only [upd]; rw [if_neg (by omega)])
      unfold wdT at hg2
      refine a4h (lo:=4) (bt:=88) hg2 (by simp only []; omega) (ys:=[rnV w.runs[k]]) (by rfl) (by simp) (by rw [a0k]; simp; omega) fun v2 fp2 ds2 hg3 hlo2 hkp2 => ?_
      have y1:=hlo2 1 (by omega)
      have y2:=hlo2 2 (by omega)
      have y3:=hlo2 3 (by omega)
      simp (disch:=omega) only [a0c,a0d,z1,z2] at y1 y2 y3
      rw [x_nx]
      refine ⟨by simp only [a1t], ?_⟩
      try simp only [] at y1 y2 y3 hg3 ⊢
      generalize appd ds2 _=m6 at y1 y2 y3 hg3 ⊢
      simp (maxSteps:=1000000) (disch:=omega) only [rg,gD,simprocAttr,y3,hg3.cell]
      exact fin2 _ _ v2 _ (by omega) (by simp (disch:=omega) only [a0d,a0c,wo_0,wo_1,wo_2,y1]) (by simp (disch:=omega) only [a0d,a0c,wo_0,wo_1,wo_2,y2]) (by simp (disch:=omega) only [a0d,a0c,wo_0,wo_1,wo_2,wdT]) (Gro.keep (l:=mv rnV _) (by rw [← a5k]; exact hg3) (by omega) (fun id h1 h2 => by simp only [upd]; rw [if_neg (by omega)])) (by simp) _ rfl
  · -- behind its place
    have hnk:¬ w.runs[k].key=r.key:=fun h => by have:=(hb3 k hk h).1; omega
    rw [c5e hk hki he1] at fin2
    simp (maxSteps:=1000000) (disch:=omega) only [rg,gD,simprocAttr,show (k:Int) < w.runs.length by omega,a0m hk,rnV,e1,e3,decide_eq_true hki,eq_false hnk]
    refine a4h (lo:=4) (bt:=88) (hgk _ _) (by simp only []; omega) (ys:=[rnV w.runs[k]]) (by rfl) (by simp) (by rw [a0k]; simp; omega) fun v' fp ds hg' hlo hkp => ?_
    have z1:=hlo 1 (by omega)
    have z2:=hlo 2 (by omega)
    have z3:=hlo 3 (by omega)
    simp (disch:=omega) only [a0c,a0d,e1,e2,e3] at z1 z2 z3
    rw [x_nx]
    refine ⟨by simp only [a1t], ?_⟩
    simp only [] at z1 z2 z3 hg' hkp ⊢
    generalize appd ds _=m5 at z1 z2 z3 hg' ⊢
    simp (maxSteps:=1000000) (disch:=omega) only [rg,gD,simprocAttr,z3,hg'.cell]
    exact fin2 _ _ v' _ (by omega) (by simp (disch:=omega) only [a0d,a0c,wo_0,wo_1,wo_2,z1]) (by simp (disch:=omega) only [a0d,a0c,wo_0,wo_1,wo_2,z2]) (by simp (disch:=omega) only [a0d,a0c,wo_0,wo_1,wo_2,wdT]) (Gro.keep (l:=mv rnV _) (by rw [← a5k]; exact hg') (by omega) (fun id h1 h2 => by simp only [upd]; rw [if_neg (by omega)])) (by simp; omega) _ rfl
theorem c7p (w:Wd):getC (some 4) 0 (wdV w)=some (wdV w):=rfl
theorem a2k {α:Type} {l:List α} {i:Nat} {d:α} (h:i < l.length):l.getD i d=l[i]:=by simp [List.getD,h]
theorem a2a (b:Rn):setC (some 5) 0 zRV (rnV b)=some (rnV b):=rfl
theorem d0m (w:Wd) (t:Int):PCall Tryz.prog 45 [wdV w,.int .i64 t] (waV (a6f w t)):=by
  refine en45 (by simp) (by simp [a0b,V.closed,a1n]) ?_
  by_cases c1:t < 0
  · simp (maxSteps:=1000000) (disch:=omega) only [rg,gD,simprocAttr,c45,wdV,c1]
    refine ⟨_,a2v 1, ?_⟩
    simp (maxSteps:=1000000) (disch:=omega) only [rg,gD,simprocAttr,ansV]
    (refine a0f rfl ?_ ?_<;>simp [pack,lo,loL,V.closed,a0b,a0a,waV,a6f,c1,wdV,ansV,a0h,a0l a0y,a0l a1i,a0l a0n,a0a a0i,a0g,a0e])
  by_cases c2:MT < t
  · have c2':=c2
    unfold MT at c2'
    simp (maxSteps:=1000000) (disch:=omega) only [rg,gD,simprocAttr,c45,wdV,c1,c2']
    refine ⟨_,a2v 1, ?_⟩
    simp (maxSteps:=1000000) (disch:=omega) only [rg,gD,simprocAttr,ansV]
    (refine a0f rfl ?_ ?_<;>simp [pack,lo,loL,V.closed,a0b,a0a,waV,a6f,c2,wdV,ansV,a0h,a0l a0y,a0l a1i,a0l a0n,a0a a0i,a0g,a0e])
  have c2':=c2
  unfold MT at c2'
  have hres:a6f w t=({ w with now:=max w.now t },whyA 0):=by rw [a6f,if_neg (fun h => h.elim c1 c2)]
  rw [hres]
  by_cases c3:w.now < t
  · have e:max w.now t=t:=by omega
    rw [e]
    simp (maxSteps:=1000000) (disch:=omega) only [rg,gD,simprocAttr,c45,wdV,c1,c2',c3]
    (refine a0f rfl ?_ ?_<;>simp [pack,lo,loL,V.closed,a0b,a0a,waV,whyA,wdV,ansV,a0h,a0v,a0l a0y,a0l a1i,a0a a0i,a0g])
  · have e:max w.now t=w.now:=by omega
    rw [e]
    simp (maxSteps:=1000000) (disch:=omega) only [rg,gD,simprocAttr,c45,wdV,c1,c2',c3]
    (refine a0f rfl ?_ ?_<;>simp [pack,lo,loL,V.closed,a0b,a0a,waV,whyA,wdV,ansV,a0h,a0v,a0l a0y,a0l a1i,a0a a0i,a0g])
theorem b8q (w:Wd) (key:Str) (ok:WdOk w) (h:WR w):PCall Tryz.prog 44 [wdV w,.str key] (waV (a3n w key)):=by
  have hat:=b3c w key (by have:=ok.runs; omega)
  rw [b8a h.rruns] at hat
  refine en44 (by simp) (by simp [a0b,V.closed,a1n]) ?_
  unfold wdV at hat
  simp (maxSteps:=1000000) (disch:=omega) only [rg,gD,simprocAttr,c44,wdV]
  refine ⟨_,hat, ?_⟩
  by_cases c1:key∈a1k w.runs
  case neg =>
    rw [if_neg c1]
    simp (maxSteps:=1000000) (disch:=omega) only [rg,gD,simprocAttr,ixO,show (-1:Int) < 0 by omega]
    refine ⟨_,a2v 190, ?_⟩
    simp (maxSteps:=1000000) (disch:=omega) only [rg,gD,simprocAttr,ansV]
    (refine a0f rfl ?_ ?_<;>simp [pack,lo,loL,V.closed,a0b,a0a,a3n,c1,waV,whyA,wdV,ansV,a0h,a0v,a0l a0y,a0l a1i,a0l a0n,a0a a0i,a0g,a0e])
  rw [if_pos c1]
  obtain ⟨hi,hk⟩:=a6j h.rruns c1
  have hca:=b8w w.runs[lbR key w.runs] w.now (h.runs _ (List.getElem_mem hi)).2
  have hres:a3n w key=if (a2f w.now w.runs[lbR key w.runs]).2≠0 then (w,whyA (a2f w.now w.runs[lbR key w.runs]).2) else ({ w with runs:=w.runs.set (lbR key w.runs) (a2f w.now w.runs[lbR key w.runs]).1 },whyA 0):=by
    unfold a3n; rw [if_neg (fun e => e c1),a2k hi]
  have hkey:=c1g (now:=w.now) (r:=w.runs[lbR key w.runs])
  rw [hres]
  generalize hz:a2f w.now w.runs[lbR key w.runs]=z at hca hkey
  generalize lbR key w.runs=i at hi hk hca hz hkey
  unfold rnE at hca
  simp (maxSteps:=1000000) (disch:=omega) only [rg,gD,simprocAttr,ixO,show ¬ (i:Int) < 0 by omega,a0m hi,a1e,Int.toNat_natCast]
  refine ⟨_,hca, ?_⟩
  by_cases z0:z.2=0
  case neg =>
    rw [if_pos z0]
    simp (maxSteps:=1000000) (disch:=omega) only [rg,gD,simprocAttr,a2a,eq_false z0]
    refine ⟨by simp [a1h,disj,nthL],_,a2v z.2, ?_⟩
    simp (maxSteps:=1000000) (disch:=omega) only [rg,gD,simprocAttr,ansV]
    (refine a0f rfl ?_ ?_<;>simp [pack,lo,loL,V.closed,a0b,a0a,waV,whyA,wdV,ansV,a0h,a0v,a0l a0y,a0l a1i,a0l a0n,a0a a0i,a0g,a0e])
  rw [if_neg (by omega)]
  have hwi:=a6l w z.1 (by have:=ok.runs; omega) h.rruns
  rw [b8c h.rruns hi (hkey z0)] at hwi
  simp (maxSteps:=1000000) (disch:=omega) only [rg,gD,simprocAttr,a2a,eq_true z0,a1e]
  refine ⟨by simp [a1h,disj,nthL],_,hwi, ?_⟩
  simp (maxSteps:=1000000) (disch:=omega) only [rg,gD,simprocAttr,wdV]
  (refine a0f rfl ?_ ?_<;>simp [pack,lo,loL,V.closed,a0b,a0a,waV,whyA,wdV,ansV,a0h,a0v,a0l a0y,a0l a1i,a0l a0n,a0a a0i,a0g,a0e])
theorem c6f {α:Type} {p:α→Bool}:∀ {l:List α} {i:Nat},ixO (fndS p i l) < 0↔l.any p=false
  | [],i => by simp [fndS,ixO]
  | a::l,i => by
    simp only [fndS,List.any_cons]
    cases c:p a with
    | true => simp [ixO]
    | false => simpa using c6f (l:=l) (i:=i+1)
theorem b2l (w:Wd) (what token:Int) (text:Str) (ok:WdOk w) (h:WR w):PCall Tryz.prog 43 [wdV w,.int .i64 what,.int .i64 token,.str text] (waV (a3e w (a9l what w.now text) token)):=by
  have hnr:=ok.runs
  refine en43 (by simp) (by simp [a0b,V.closed,a1n]) ?_
  simp (maxSteps:=1000000) (disch:=omega) only [rg,gD,simprocAttr,c43,wdV,a0k]
  refine x_it w.runs.length (fun k σ H => 3≤H.n∧H.m 0=some (.arr 4 [wdV w])∧H.m 1=some (.arr 4 [V.agg [V.int .i64 0,V.int .i64 0,V.fsl .nil 2 [],V.fsl .nil 5 []]])∧H.m 2=some (.arr 6 [V.agg [V.int .i64 0,V.str [],V.int .i64 0,V.int .i64 0,V.int .i64 0,V.fsl .nil 5 []]]) ∧
    fndS (hasP token) 0 w.runs=fndS (hasP token) k (w.runs.drop k) ∧
    σ=[(1,.int .i64 what),(2,.int .i64 token),(3,.str text),(4,.ptr 0 0 0),(8,.ptr 1 0 0),(9,.ptr 2 0 0),(15,.fsl .loose 5 (mv rnV w.runs)),(16,.int .i64 (w.runs.length:Int)),(17,.int .i64 (k:Int))]) ⟨Nat.le_refl 3,by simp [upd,wdV],by simp [upd],by simp [upd],rfl,rfl⟩ ?_
  rintro T k σ ⟨n,m⟩ hkk ⟨hn,e0,e1,e2,hf,rfl⟩ hN hX hR
  simp only at hn e0 e1 e2
  by_cases hk:k < w.runs.length
  case neg =>
    obtain rfl:k=w.runs.length:=by omega
    rw [List.drop_length] at hf
    simp (maxSteps:=1000000) (disch:=omega) only [rg,gD,simprocAttr,Int.lt_irrefl]
    refine hX _ _ _ ?_
    simp (maxSteps:=1000000) (disch:=omega) only [rg,gD,simprocAttr]
    refine a0s ?_
    unfold wdV at e0
    simp (maxSteps:=1000000) (disch:=omega) only [rg,gD,simprocAttr,e0]
    refine ⟨_,a2v 191, ?_⟩
    simp (maxSteps:=1000000) (disch:=omega) only [rg,gD,simprocAttr,ansV,e1,e2]
    (refine a0f rfl ?_ ?_<;>simp [pack,lo,loL,V.closed,a0b,a0a,a3e,hf,fndS,waV,whyA,wdV,ansV,a0h,a0v,a0l a0y,a0l a1i,a0l a0n,a0a a0i,a0g,a0e])
  rw [a3o hk] at hf
  have hrr:=(h.runs _ (List.getElem_mem hk)).2
  have hhe:=c0w w.runs[k] token (by have:=hrr.small.2.1; omega)
  have hto:=d0q w.runs[k] what w.now token text hrr
  have hfa:=c6f (p:=a4l token) (l:=w.runs[k].states) (i:=0)
  have hkey:=b9u (now:=w.now) (token:=token) (f:=a9l what w.now text) (r:=w.runs[k])
  have l0:(0:Nat)≠n:=by omega
  have l1:(1:Nat)≠n:=by omega
  have l2:(2:Nat)≠n:=by omega
  unfold wdV at e0
  cases hh:hasP token w.runs[k] with
  | false =>
    rw [hh] at hf
    have hlt:=hfa.2 hh
    unfold rnV at hhe
    simp (maxSteps:=1000000) (disch:=omega) only [rg,gD,simprocAttr,show (k:Int) < w.runs.length by omega,a0m hk,rnV]
    refine ⟨_,hhe, ?_⟩
    simp (maxSteps:=1000000) (disch:=omega) only [rg,gD,simprocAttr,hlt]
    exact hN _ _ hk ⟨by show 3≤n+1; omega,(by simp (disch:=omega) only [a0d,a0c,wo_0,wo_1,wo_2,e0,wdV]),(by simp (disch:=omega) only [a0d,a0c,wo_0,wo_1,wo_2,e1]),(by simp (disch:=omega) only [a0d,a0c,wo_0,wo_1,wo_2,e2]),by simpa using hf,rfl⟩
  | true =>
    rw [hh] at hf
    have hnl:¬ ixO (fndS (a4l token) 0 w.runs[k].states) < 0:=fun e => by have:=hfa.1 e; unfold hasP at hh; rw [hh] at this; cases this
    have hres:a3e w (a9l what w.now text) token=if (a3k w.now (a9l what w.now text) token w.runs[k]).2≠0 then (w,whyA (a3k w.now (a9l what w.now text) token w.runs[k]).2)
        else ({ w with runs:=w.runs.set k (a3k w.now (a9l what w.now text) token w.runs[k]).1 },⟨0,w.runs[k].key,0,0,0,[]⟩):=by
      unfold a3e; rw [hf]; simp only [if_true,a2k hk]
    generalize a3k w.now (a9l what w.now text) token w.runs[k]=z at hto hkey hres
    unfold rnE at hto
    unfold rnV at hhe hto
    simp (maxSteps:=1000000) (disch:=omega) only [rg,gD,simprocAttr,show (k:Int) < w.runs.length by omega,a0m hk,rnV]
    refine ⟨_,hhe, ?_⟩
    simp (maxSteps:=1000000) (disch:=omega) only [rg,gD,simprocAttr,hnl,e0]
    refine ⟨_,hto, ?_⟩
    by_cases z0:z.2=0
    case neg =>
      rw [if_pos z0] at hres
      simp (maxSteps:=1000000) (disch:=omega) only [rg,gD,simprocAttr,eq_false z0,e0]
      refine ⟨_,a2v z.2, ?_⟩
      simp (maxSteps:=1000000) (disch:=omega) only [rg,gD,simprocAttr,ansV,e1,e2]
      refine hR _ _ ?_
      (refine a0f rfl ?_ ?_<;>simp [pack,lo,loL,V.closed,a0b,a0a,hres,waV,whyA,wdV,ansV,a0h,a0v,a0l a0y,a0l a1i,a0l a0n,a0a a0i,a0g,a0e])
    rw [if_neg (by omega)] at hres
    have hwi:=a6l w z.1 (by omega) h.rruns
    rw [b8c h.rruns hk (hkey z0)] at hwi
    unfold wdV at hwi
    simp (maxSteps:=1000000) (disch:=omega) only [rg,gD,simprocAttr,eq_true z0,e0]
    refine ⟨_,hwi, ?_⟩
    simp (maxSteps:=1000000) (disch:=omega) only [rg,gD,simprocAttr,e1,e2]
    refine ⟨by simp [a1h,disj,nthL]<;>omega, ?_⟩
    refine hR _ _ ?_
    (refine a0f rfl ?_ ?_<;>simp [pack,lo,loL,V.closed,a0b,a0a,hres,waV,whyA,wdV,ansV,a0h,a0v,a0l a0y,a0l a1i,a0l a0n,a0a a0i,a0g,a0e])
theorem c9s (w:Wd) (ok:WdOk w) (h:WR w):PCall Tryz.prog 42 [wdV w] (waV (a5s w)):=by
  have hnr:=ok.runs
  refine en42 (by simp) (by simp [a0b,V.closed,a1n]) ?_
  by_cases c0:MT≤w.token
  · have c0':=c0
    unfold MT at c0'
    simp (maxSteps:=1000000) (disch:=omega) only [rg,gD,simprocAttr,c42,wdV,c0',ge_iff_le]
    refine ⟨_,a2v 192, ?_⟩
    simp (maxSteps:=1000000) (disch:=omega) only [rg,gD,simprocAttr,ansV]
    (refine a0f rfl ?_ ?_<;>simp [pack,lo,loL,V.closed,a0b,a0a,a5s,c0,waV,whyA,wdV,ansV,a0h,a0v,a0l a0y,a0l a1i,a0l a0n,a0a a0i,a0g,a0e])
  have c0':=c0
  unfold MT at c0'
  have hp0:a5s w=match fndS (a5v w.now (w.token+1)) 0 w.runs with
      | none => (w,whyA 192)
      | some i => ({ w with token:=w.token+1,runs:=w.runs.set i (a3a w.now (w.token+1) (w.runs.getD i zR)).1 },⟨0,(w.runs.getD i zR).key,(a3a w.now (w.token+1) (w.runs.getD i zR)).2.1,w.token+1,0,[]⟩):=by
    rw [a5s,if_neg c0]<;>(cases fndS (a5v w.now (w.token+1)) 0 w.runs<;>rfl)
  have ht:=h.token
  simp (maxSteps:=1000000) (disch:=omega) only [rg,gD,simprocAttr,c42,wdV,c0',ge_iff_le,a0k]
  refine x_it w.runs.length (fun k σ H => 3≤H.n∧H.m 0=some (.arr 4 [wdV w])∧H.m 1=some (.arr 4 [V.agg [V.int .i64 0,V.int .i64 0,V.fsl .nil 2 [],V.fsl .nil 5 []]])∧H.m 2=some (.arr 6 [V.agg [V.int .i64 0,V.str [],V.int .i64 0,V.int .i64 0,V.int .i64 0,V.fsl .nil 5 []]]) ∧
    fndS (a5v w.now (w.token+1)) 0 w.runs=fndS (a5v w.now (w.token+1)) k (w.runs.drop k) ∧
    σ=[(1,.ptr 0 0 0),(2,.ptr 1 0 0),(3,.ptr 2 0 0),(16,.fsl .loose 5 (mv rnV w.runs)),(17,.int .i64 (w.runs.length:Int)),(18,.int .i64 (k:Int))]) ⟨Nat.le_refl 3,by simp [upd,wdV],by simp [upd],by simp [upd],rfl,rfl⟩ ?_
  rintro T k σ ⟨n,m⟩ hkk ⟨hn,e0,e1,e2,hf,rfl⟩ hN hX hR
  simp only at hn e0 e1 e2
  by_cases hk:k < w.runs.length
  case neg =>
    obtain rfl:k=w.runs.length:=by omega
    rw [List.drop_length] at hf
    rw [hf] at hp0
    simp (maxSteps:=1000000) (disch:=omega) only [rg,gD,simprocAttr,Int.lt_irrefl]
    refine hX _ _ _ ?_
    simp (maxSteps:=1000000) (disch:=omega) only [rg,gD,simprocAttr]
    refine a0s ?_
    unfold wdV at e0
    simp (maxSteps:=1000000) (disch:=omega) only [rg,gD,simprocAttr,e0]
    refine ⟨_,a2v 192, ?_⟩
    simp (maxSteps:=1000000) (disch:=omega) only [rg,gD,simprocAttr,ansV,e1,e2]
    (refine a0f rfl ?_ ?_<;>simp [pack,lo,loL,V.closed,a0b,a0a,hp0,fndS,waV,whyA,wdV,ansV,a0h,a0v,a0l a0y,a0l a1i,a0l a0n,a0a a0i,a0g,a0e])
  rw [a3o hk] at hf
  have hrr:=(h.runs _ (List.getElem_mem hk)).2
  have hle:=c2i w.runs[k] w.now (w.token+1) hrr
  have hkey:=b6c (now:=w.now) (token:=w.token+1) hrr.len
  have hlp:a5v w.now (w.token+1) w.runs[k]=decide ((a3a w.now (w.token+1) w.runs[k]).2.2=0):=rfl
  have l0:(0:Nat)≠n:=by omega
  have l1:(1:Nat)≠n:=by omega
  have l2:(2:Nat)≠n:=by omega
  unfold wdV at e0
  have hres:a5v w.now (w.token+1) w.runs[k]=true→a5s w=({ w with token:=w.token+1,runs:=w.runs.set k (a3a w.now (w.token+1) w.runs[k]).1 },⟨0,w.runs[k].key,(a3a w.now (w.token+1) w.runs[k]).2.1,w.token+1,0,[]⟩):=fun hd => by
    rw [hp0,hf,hd]; simp only [if_true,a2k hk]
  rw [hlp] at hf hres
  generalize a3a w.now (w.token+1) w.runs[k]=z at hle hkey hres hf
  unfold leV at hle
  unfold rnV at hle
  simp (maxSteps:=1000000) (disch:=omega) only [rg,gD,simprocAttr,show (k:Int) < w.runs.length by omega,a0m hk,rnV,e0]
  refine ⟨_,hle, ?_⟩
  by_cases z0:z.2.2=0
  case neg =>
    rw [decide_eq_false z0] at hf
    simp (maxSteps:=1000000) (disch:=omega) only [rg,gD,simprocAttr,eq_false z0]
    exact hN _ _ hk ⟨by show 3≤n+2; omega,(by simp (disch:=omega) only [a0d,a0c,wo_0,wo_1,wo_2,e0,wdV]),(by simp (disch:=omega) only [a0d,a0c,wo_0,wo_1,wo_2,e1]),(by simp (disch:=omega) only [a0d,a0c,wo_0,wo_1,wo_2,e2]),by simpa using hf,rfl⟩
  have hres:=hres (decide_eq_true z0)
  have hwi:=a6l w z.1 (by omega) h.rruns
  rw [b8c h.rruns hk (hkey z0)] at hwi
  unfold wdV at hwi
  simp (maxSteps:=1000000) (disch:=omega) only [rg,gD,simprocAttr,eq_true z0,e0]
  refine ⟨_,hwi, ?_⟩
  simp (maxSteps:=1000000) (disch:=omega) only [rg,gD,simprocAttr,e0,e1,e2]
  refine ⟨by simp [a1h,disj,nthL]<;>omega, ?_⟩
  refine hR _ _ ?_
  (refine a0f rfl ?_ ?_<;>simp [pack,lo,loL,V.closed,a0b,a0a,hres,waV,whyA,wdV,ansV,a0h,a0v,a0l a0y,a0l a1i,a0l a0n,a0a a0i,a0g,a0e])
theorem c4s (key:Str) (d:Dag):(newS key d).key=key:=(a5u _).key
theorem c6g (w:Wd) (key name:Str) (ok:WdOk w) (h:WR w):PCall Tryz.prog 41 [wdV w,.str key,.str name] (waV (a5i w key name)):=by
  have hnr:=ok.runs
  have hnd:=ok.dags
  have hda:=b3d w name hnd
  rw [d1e h.rdags] at hda
  have hra:=b3c w key hnr
  rw [b8a h.rruns] at hra
  refine en41 (by simp) (by simp [a0b,V.closed,a1n]) ?_
  unfold wdV at hda hra
  by_cases c1:key.length < 1
  · simp (maxSteps:=1000000) (disch:=omega) only [rg,gD,simprocAttr,c41,wdV,show (key.length:Int) < 1 by omega]
    refine ⟨_,a2v 1, ?_⟩
    simp (maxSteps:=1000000) (disch:=omega) only [rg,gD,simprocAttr,ansV]
    (refine a0f rfl ?_ ?_<;>simp [pack,lo,loL,V.closed,a0b,a0a,a5i,c1,waV,whyA,wdV,ansV,a0h,a0v,a0l a0y,a0l a1i,a0l a0n,a0a a0i,a0g,a0e])
  by_cases c2:16 < key.length
  · simp (maxSteps:=1000000) (disch:=omega) only [rg,gD,simprocAttr,c41,wdV,show ¬ (key.length:Int) < 1 by omega,show (16:Int) < key.length by omega]
    refine ⟨_,a2v 1, ?_⟩
    simp (maxSteps:=1000000) (disch:=omega) only [rg,gD,simprocAttr,ansV]
    (refine a0f rfl ?_ ?_<;>simp [pack,lo,loL,V.closed,a0b,a0a,a5i,c2,waV,whyA,wdV,ansV,a0h,a0v,a0l a0y,a0l a1i,a0l a0n,a0a a0i,a0g,a0e])
  simp (maxSteps:=1000000) (disch:=omega) only [rg,gD,simprocAttr,c41,wdV,show ¬ (key.length:Int) < 1 by omega,show ¬ (16:Int) < key.length by omega]
  refine ⟨_,hda, ?_⟩
  have hb0:a5i w key name=if name∉a1j w.dags then (w,whyA 161)
      else if key∈a1k w.runs then (if (w.runs.getD (lbR key w.runs) zR).dag.name≠name then (w,whyA 190) else (w,whyA 0))
      else if 64≤w.runs.length then (w,whyA 2) else ({ w with runs:=putR w.runs (newS key (w.dags.getD (lbD name w.dags) zD)) },whyA 0):=by
    unfold a5i; rw [if_neg (fun h => h.elim c1 c2)]
  by_cases c3:name∈a1j w.dags
  case neg =>
    rw [if_neg c3]
    simp (maxSteps:=1000000) (disch:=omega) only [rg,gD,simprocAttr,ixO,show (-1:Int) < 0 by omega]
    refine ⟨_,a2v 161, ?_⟩
    simp (maxSteps:=1000000) (disch:=omega) only [rg,gD,simprocAttr,ansV]
    (refine a0f rfl ?_ ?_<;>simp [pack,lo,loL,V.closed,a0b,a0a,hb0,c3,waV,whyA,wdV,ansV,a0h,a0v,a0l a0y,a0l a1i,a0l a0n,a0a a0i,a0g,a0e])
  obtain ⟨hi,hin⟩:=b3b h.rdags c3
  rw [if_pos c3]
  rw [if_neg (fun e => e c3),a2k hi] at hb0
  have hnew:=d2o key w.dags[lbD name w.dags] (h.dags _ (List.getElem_mem hi))
  have hnk:=c4s key w.dags[lbD name w.dags]
  generalize newS key w.dags[lbD name w.dags]=nr at hnew hnk hb0
  generalize lbD name w.dags=i at hi hin hnew
  simp (maxSteps:=1000000) (disch:=omega) only [rg,gD,simprocAttr,ixO,show ¬ (i:Int) < 0 by omega]
  refine ⟨_,hra, ?_⟩
  by_cases c4:key∈a1k w.runs
  · obtain ⟨hj,hjk⟩:=a6j h.rruns c4
    rw [if_pos c4]
    rw [if_pos c4,a2k hj] at hb0
    generalize lbR key w.runs=j at hj hjk hb0
    by_cases c5:w.runs[j].dag.name=name
    · rw [if_neg (fun e => e c5)] at hb0
      simp (maxSteps:=1000000) (disch:=omega) only [rg,gD,simprocAttr,ixO,show (0:Int)≤(j:Int) by omega,ge_iff_le,a0m hj,Int.toNat_natCast,rnV,eq_true c5]
      (refine a0f rfl ?_ ?_<;>simp [pack,lo,loL,V.closed,a0b,a0a,hb0,waV,whyA,wdV,ansV,a0h,a0v,a0l a0y,a0l a1i,a0l a0n,a0a a0i,a0g,a0e])
    · rw [if_pos c5] at hb0
      simp (maxSteps:=1000000) (disch:=omega) only [rg,gD,simprocAttr,ixO,show (0:Int)≤(j:Int) by omega,ge_iff_le,a0m hj,Int.toNat_natCast,rnV,eq_false c5]
      refine ⟨_,a2v 190, ?_⟩
      simp (maxSteps:=1000000) (disch:=omega) only [rg,gD,simprocAttr,ansV]
      (refine a0f rfl ?_ ?_<;>simp [pack,lo,loL,V.closed,a0b,a0a,hb0,waV,whyA,wdV,ansV,a0h,a0v,a0l a0y,a0l a1i,a0l a0n,a0a a0i,a0g,a0e])
  rw [if_neg c4]
  rw [if_neg c4] at hb0
  by_cases c6:64≤w.runs.length
  · rw [if_pos c6] at hb0
    simp (maxSteps:=1000000) (disch:=omega) only [rg,gD,simprocAttr,ixO,show ¬ (0:Int)≤-1 by omega,ge_iff_le,a0k,show (64:Int)≤w.runs.length by omega]
    refine ⟨_,a2v 2, ?_⟩
    simp (maxSteps:=1000000) (disch:=omega) only [rg,gD,simprocAttr,ansV]
    (refine a0f rfl ?_ ?_<;>simp [pack,lo,loL,V.closed,a0b,a0a,hb0,waV,whyA,wdV,ansV,a0h,a0v,a0l a0y,a0l a1i,a0l a0n,a0a a0i,a0g,a0e])
  rw [if_neg c6] at hb0
  have hwi:=a6l w nr (by omega) h.rruns
  unfold wdV at hwi
  simp (maxSteps:=1000000) (disch:=omega) only [rg,gD,simprocAttr,ixO,show ¬ (0:Int)≤-1 by omega,ge_iff_le,a0k,show ¬ (64:Int)≤w.runs.length by omega,a0m hi,Int.toNat_natCast,a2l]
  refine ⟨_,hnew, ?_⟩
  simp (maxSteps:=1000000) (disch:=omega) only [rg,gD,simprocAttr]
  refine ⟨_,hwi, ?_⟩
  simp (maxSteps:=1000000) (disch:=omega) only [rg,gD,simprocAttr]
  (refine a0f rfl ?_ ?_<;>simp [pack,lo,loL,V.closed,a0b,a0a,hb0,waV,whyA,wdV,ansV,a0h,a0v,a0l a0y,a0l a1i,a0l a0n,a0a a0i,a0g,a0e])
def wdU (w:Wd) (v:V):V:=.agg [.int .i64 w.now,.int .i64 w.token,v,.fsl .loose 5 (mv rnV w.runs)]
theorem c5j (w:Wd) (d:Dag) (ok:WdOk w) (h:WR w) (hdd:a2w d):PCall Tryz.prog 40 [wdV w,dagV d] (waV (a2t w d)):=by
  have hnr:=ok.runs
  have hnd:=ok.dags
  have hdr:=b2y d hdd.2 hdd.1
  rw [a9v] at hdr
  have hda:=b3d w d.name hnd
  rw [d1e h.rdags] at hda
  have hdm:=b7q (d:=d) h.rdags rfl (a6z h.rdags d.name)
  refine en40 (by simp) (by simp [a0b,V.closed,a1n,a0i]) ?_
  unfold wdV at hda
  by_cases c1:a0t d=0
  case neg =>
    have hres:a2t w d=(w,whyA (a0t d)):=by unfold a2t; rw [if_pos c1]
    simp (maxSteps:=1000000) (disch:=omega) only [rg,gD,simprocAttr,c40,wdV,a2l]
    refine ⟨⟨rfl,rfl⟩, ?_⟩
    refine ⟨_,hdr, ?_⟩
    simp (maxSteps:=1000000) (disch:=omega) only [rg,gD,simprocAttr,eq_false c1]
    refine ⟨_,a2v _, ?_⟩
    simp (maxSteps:=1000000) (disch:=omega) only [rg,gD,simprocAttr,ansV]
    (refine a0f rfl ?_ ?_<;>simp [pack,lo,loL,V.closed,a0b,a0a,hres,waV,whyA,wdV,ansV,a0h,a0v,a0l a0y,a0l a1i,a0l a0n,a0a a0i,a0g,a0e])
  simp (maxSteps:=1000000) (disch:=omega) only [rg,gD,simprocAttr,c40,wdV,a2l]
  refine ⟨⟨rfl,rfl⟩, ?_⟩
  refine ⟨_,hdr, ?_⟩
  unfold dagV at hda
  simp (maxSteps:=1000000) (disch:=omega) only [rg,gD,simprocAttr,eq_true c1,dagV]
  refine ⟨_,hda, ?_⟩
  by_cases c3:d.name∈a1j w.dags
  · obtain ⟨hi,hin⟩:=b3b h.rdags c3
    rw [if_pos c3]
    have hli:=b0s w.dags[lbD d.name w.dags] d (ok.dag _ (List.getElem_mem hi)) hdd
    have hdm2:d∈w.dags↔w.dags[lbD d.name w.dags]=d:=hdm.trans ⟨fun h => h.2.2,fun e => ⟨c3,hi,e⟩⟩
    have hres:a2t w d=if d∈w.dags then (w,whyA 0) else (w,whyA 161):=by unfold a2t; rw [if_neg (by simp [c1]),if_pos c3]
    generalize lbD d.name w.dags=i at hi hin hli hdm2
    simp (maxSteps:=1000000) (disch:=omega) only [rg,gD,simprocAttr,ixO,show (0:Int)≤(i:Int) by omega,ge_iff_le,a0m hi,Int.toNat_natCast,a2l]
    refine ⟨_,hli, ?_⟩
    by_cases c4:w.dags[i]=d
    · rw [if_pos (hdm2.2 c4)] at hres
      simp (maxSteps:=1000000) (disch:=omega) only [rg,gD,simprocAttr,decide_eq_true c4]
      (refine a0f rfl ?_ ?_<;>simp [pack,lo,loL,V.closed,a0b,a0a,hres,waV,whyA,wdV,ansV,a0h,a0v,a0l a0y,a0l a1i,a0l a0n,a0a a0i,a0g,a0e])
    · rw [if_neg (fun e => c4 (hdm2.1 e))] at hres
      simp (maxSteps:=1000000) (disch:=omega) only [rg,gD,simprocAttr,decide_eq_false c4]
      refine ⟨_,a2v 161, ?_⟩
      simp (maxSteps:=1000000) (disch:=omega) only [rg,gD,simprocAttr,ansV]
      (refine a0f rfl ?_ ?_<;>simp [pack,lo,loL,V.closed,a0b,a0a,hres,waV,whyA,wdV,ansV,a0h,a0v,a0l a0y,a0l a1i,a0l a0n,a0a a0i,a0g,a0e])
  rw [if_neg c3]
  by_cases c6:16≤w.dags.length
  · have hres:a2t w d=(w,whyA 2):=by unfold a2t; rw [if_neg (by simp [c1]),if_neg c3,if_pos c6]
    simp (maxSteps:=1000000) (disch:=omega) only [rg,gD,simprocAttr,ixO,show ¬ (0:Int)≤-1 by omega,ge_iff_le,a0k,show (16:Int)≤w.dags.length by omega]
    refine ⟨_,a2v 2, ?_⟩
    simp (maxSteps:=1000000) (disch:=omega) only [rg,gD,simprocAttr,ansV]
    (refine a0f rfl ?_ ?_<;>simp [pack,lo,loL,V.closed,a0b,a0a,hres,waV,whyA,wdV,ansV,a0h,a0v,a0l a0y,a0l a1i,a0l a0n,a0a a0i,a0g,a0e])
  have hres:a2t w d=({ w with dags:=putD w.dags d },whyA 0):=by unfold a2t; rw [if_neg (by simp [c1]),if_neg c3,if_neg c6]
  have hlb:=a6z h.rdags d.name
  obtain ⟨i,hi⟩:∃ i,i=lbD d.name w.dags:=⟨_,rfl⟩
  have hput:putD w.dags d=w.dags.take i++d::w.dags.drop (i+0):=by rw [hi]; rfl
  have hend:=b9j (l:=w.dags) (x:=d) (i:=i) (e:=0)
  rw [← hput] at hend
  have hb1:∀ k (hk:k < w.dags.length),k < i→ltS w.dags[k].name d.name=true:=fun k hk h => by
    have:=hlb.lo k (by rw [a1y]; exact hk) (by rw [hi] at h; exact h)
    rwa [a8x] at this
  have hb2:∀ k (hk:k < w.dags.length),i≤k→ltS d.name w.dags[k].name=true:=fun k hk hik => by
    have:=hlb.hi k (by rw [a1y]; exact hk) (by rw [hi] at hik; exact hik)
    rw [a8x] at this
    rcases d1s this with e | e
    · exact absurd (e ▸ List.mem_map.2 ⟨_,List.getElem_mem hk,rfl⟩) c3
    · exact e
  simp (maxSteps:=1000000) (disch:=omega) only [rg,gD,simprocAttr,ixO,show ¬ (0:Int)≤-1 by omega,ge_iff_le,a0k,show ¬ (16:Int)≤w.dags.length by omega]
  refine x_it w.dags.length (fun k σ H => 5≤H.n∧H.m 1=some (.arr 2 [dagV d])∧H.m 2=some (.arr 4 [V.agg [V.int .i64 0,V.int .i64 0,V.fsl .nil 2 [],V.fsl .nil 5 []]])∧H.m 3=some (.arr 6 [V.agg [V.int .i64 0,V.str [],V.int .i64 0,V.int .i64 0,V.int .i64 0,V.fsl .nil 5 []]])∧(∃ v,H.m 4=some (.arr 4 [wdU w v])∧Gro 5 H.n H.m 2 v (mv dagV (outS w.dags d i 0 k))) ∧
    σ=[(3,.ptr 1 0 0),(4,.ptr 2 0 0),(5,.ptr 3 0 0),(8,.ptr 4 0 0),(9,.bool (decide (i < k))),(51,.fsl .loose 2 (mv dagV w.dags)),(52,.int .i64 (w.dags.length:Int)),(53,.int .i64 (k:Int))]) ?_ ?_
  · refine ⟨Nat.le_refl 5,by simp [upd,dagV],by simp [upd],by simp [upd],⟨.fsl .nil 2 [],by simp [upd,wdU], ?_⟩,by simp⟩
    rw [b7h]; exact Gro.nil
  rintro T k σ ⟨n,m⟩ hkk ⟨hn,e1,e2,e3,⟨v,e4,hg⟩,rfl⟩ hN hX hR
  simp only at hn e1 e2 e3 e4 hg
  have hol:=b9d w.dags d i 0 k
  by_cases hk:k < w.dags.length
  case neg =>
    obtain rfl:k=w.dags.length:=by omega
    simp (maxSteps:=1000000) (disch:=omega) only [rg,gD,simprocAttr,Int.lt_irrefl]
    refine hX _ _ _ ?_
    simp (maxSteps:=1000000) (disch:=omega) only [rg,gD,simprocAttr]
    refine a0s ?_
    have fin1:∀ (n':Nat) (m':Hm) (v':V),m' 2=some (.arr 4 [wdU w v'])→m' 3=some (.arr 6 [V.agg [V.int .i64 0,V.str [],V.int .i64 0,V.int .i64 0,V.int .i64 0,V.fsl .nil 5 []]])→Gro 5 n' m' 2 v' (mv dagV (putD w.dags d))→Fin r40 (waV (a2t w d)) .ret [(4,.ptr 2 0 0),(5,.ptr 3 0 0)] ⟨n',m'⟩:=fun n' m' v' f2 f3 hg' => by
      unfold wdU at f2
      obtain ⟨st,hs⟩:=hg'.snap (a0a a0i) 1
      rw [hres]
      refine b2t (v:=.tup [.agg [.int .i64 w.now,.int .i64 w.token,.fsl st 2 (mv dagV (putD w.dags d)),.fsl .loose 5 (mv rnV w.runs)],V.agg [V.int .i64 0,V.str [],V.int .i64 0,V.int .i64 0,V.int .i64 0,V.fsl .nil 5 []]]) (l:=[.agg [.int .i64 w.now,.int .i64 w.token,v',.fsl .loose 5 (mv rnV w.runs)],V.agg [V.int .i64 0,V.str [],V.int .i64 0,V.int .i64 0,V.int .i64 0,V.fsl .nil 5 []]])
        (by simp only [r40,resE,find,a2i,f2,f3,reduceIte,Nat.reduceEqDiff]; rfl) ?_ (by simp [lo,loL,waV,wdV,ansV,whyA,a0h,a0v,a0l a0y,a0l a1i])
      exact b1d (b4y (a4t (a4r (a:=[.int .i64 w.now,.int .i64 w.token]) (b:=[v',.fsl .loose 5 (mv rnV w.runs)]) (b':=[.fsl st 2 (mv dagV (putD w.dags d)),.fsl .loose 5 (mv rnV w.runs)]) (a0z rfl) (b4y hs (a0z (by simp [a0b,V.closed,a0a a0g]))))) (a0z rfl))
    unfold wdU at e4
    by_cases hin:i < w.dags.length
    · rw [if_neg (by omega)] at hend
      rw [hend] at hg
      simp (maxSteps:=1000000) (disch:=omega) only [rg,gD,simprocAttr,decide_eq_true hin,e2,e3,e4]
      exact fin1 _ _ v (by simp (disch:=omega) only [a0d,a0c,wo_0,wo_1,wo_2,wdU]) (by simp (disch:=omega) only [a0d,a0c,wo_0,wo_1,wo_2,e3]) (hg.keep (Nat.le_refl n) (fun id h1 h2 => by simp only [upd]; rw [if_neg (by omega),if_neg (by omega)]))
    · rw [if_pos (by omega)] at hend
      simp (maxSteps:=1000000) (disch:=omega) only [rg,gD,simprocAttr,decide_eq_false hin,e1,e4,a2l]
      refine ⟨⟨rfl,rfl⟩, ?_⟩
      refine a4h (lo:=5) (bt:=40) (H:=⟨n,m⟩) hg hn (ys:=[dagV d]) (by rfl) (by simp) (by rw [a0k]; simp; omega) fun v' fp ds hg' hlo hkp => ?_
      have z2:=hlo 2 (by omega)
      have z3:=hlo 3 (by omega)
      have z4:=hlo 4 (by omega)
      simp only at z2 z3 z4 hg' ⊢
      rw [e2] at z2; rw [e3] at z3; rw [e4] at z4
      rw [x_nx]
      refine ⟨by simp only [a1t], ?_⟩
      simp only []
      generalize appd ds m=m5 at z2 z3 z4 hg' ⊢
      simp (maxSteps:=1000000) (disch:=omega) only [rg,gD,simprocAttr,z2,z3,z4,hg'.cell]
      refine fin1 _ _ v' (by simp (disch:=omega) only [a0d,a0c,wo_0,wo_1,wo_2,wdU]) (by simp (disch:=omega) only [a0d,a0c,wo_0,wo_1,wo_2,z3]) (Gro.keep (l:=mv dagV (putD w.dags d)) (by rw [← hend,← a5k]; exact hg') (Nat.le_refl _) (fun id h1 h2 => by simp only [upd]; rw [if_neg (by omega),if_neg (by omega),if_neg (by omega)]))
  have hgk:∀ x:Option Ob,∀ y:Option Ob,Gro 5 (n+1) (upd (upd m n x) n y) 2 v (mv dagV (outS w.dags d i 0 k)):=fun x y => hg.keep (by omega) (fun id h1 h2 => by simp only [upd]; rw [if_neg (by omega),if_neg (by omega)])
  have hne:=hg.ne (Nat.le_refl n)
  unfold wdU at e4
  have l1:(1:Nat)≠n:=by omega
  have l2:(2:Nat)≠n:=by omega
  have l3:(3:Nat)≠n:=by omega
  have l4:(4:Nat)≠n:=by omega
  have fin2:∀ (n':Nat) (m':Hm) (v':V) (b:Bool),5≤n'→m' 1=some (.arr 2 [dagV d])→m' 2=some (.arr 4 [V.agg [V.int .i64 0,V.int .i64 0,V.fsl .nil 2 [],V.fsl .nil 5 []]])→m' 3=some (.arr 6 [V.agg [V.int .i64 0,V.str [],V.int .i64 0,V.int .i64 0,V.int .i64 0,V.fsl .nil 5 []]])→m' 4=some (.arr 4 [wdU w v'])→Gro 5 n' m' 2 v' (mv dagV (outS w.dags d i 0 (k+1)))→b=decide (i < k+1) →
      ∀ σ',σ'=[(3,.ptr 1 0 0),(4,.ptr 2 0 0),(5,.ptr 3 0 0),(8,.ptr 4 0 0),(9,.bool b),(51,.fsl .loose 2 (mv dagV w.dags)),(52,.int .i64 (w.dags.length:Int)),(53,.int .i64 ((k+1:Nat):Int))]→T .norm σ' ⟨n',m'⟩:=fun n' m' v' b a1 a2 a3 a3' a4 a5 hb σ' hσ => by
    subst hb
    exact hN _ _ hk ⟨a1,a2,a3,a3',⟨v',a4,a5⟩,hσ⟩
  rcases Nat.lt_trichotomy k i with hki | hki | hki
  · -- ahead of its place
    have hlt:=c3k (hb1 k hk hki)
    rw [c6j hk hki] at fin2
    simp (maxSteps:=1000000) (disch:=omega) only [rg,gD,simprocAttr,show (k:Int) < w.dags.length by omega,a0m hk,dagV,e1,e4,decide_eq_false (show ¬ i < k by omega),b4p,hlt]
    refine a4h (lo:=5) (bt:=40) (hgk _ _) (by simp only []; omega) (ys:=[dagV w.dags[k]]) (by rfl) (by simp) (by rw [a0k]; simp; omega) fun v' fp ds hg' hlo hkp => ?_
    have z1:=hlo 1 (by omega)
    have z2:=hlo 2 (by omega)
    have z3:=hlo 3 (by omega)
    have z4:=hlo 4 (by omega)
    simp (disch:=omega) only [a0c,a0d,e1,e2,e3,e4] at z1 z2 z3 z4
    rw [x_nx]
    refine ⟨by simp only [a1t], ?_⟩
    simp only [] at z1 z2 z3 z4 hg' hkp ⊢
    generalize appd ds _=m5 at z1 z2 z3 z4 hg' ⊢
    simp (maxSteps:=1000000) (disch:=omega) only [rg,gD,simprocAttr,z4,hg'.cell]
    exact fin2 _ _ v' _ (by omega) (by simp (disch:=omega) only [a0d,a0c,wo_0,wo_1,wo_2,z1]) (by simp (disch:=omega) only [a0d,a0c,wo_0,wo_1,wo_2,z2]) (by simp (disch:=omega) only [a0d,a0c,wo_0,wo_1,wo_2,z3]) (by simp (disch:=omega) only [a0d,a0c,wo_0,wo_1,wo_2,wdU]) (Gro.keep (l:=mv dagV _) (by rw [← a5k]; exact hg') (by omega) (fun id h1 h2 => by simp only [upd]; rw [if_neg (by omega)])) (by simp; omega) _ rfl
  · -- at its place
    subst hki
    have hlt:=hb2 k hk (Nat.le_refl k)
    rw [c0s hk] at fin2
    simp (maxSteps:=1000000) (disch:=omega) only [rg,gD,simprocAttr,show (k:Int) < w.dags.length by omega,a0m hk,dagV,e1,e4,decide_eq_false (Nat.lt_irrefl k),b4p,hlt,a2l]
    refine a4h (lo:=5) (bt:=40) (hgk _ _) (by simp only []; omega) (ys:=[dagV d]) (by rfl) (by simp) (by rw [a0k]; simp; omega) fun v' fp ds hg' hlo hkp => ?_
    have z1:=hlo 1 (by omega)
    have z2:=hlo 2 (by omega)
    have z3:=hlo 3 (by omega)
    have z4:=hlo 4 (by omega)
    simp (disch:=omega) only [a0c,a0d,e1,e2,e3,e4] at z1 z2 z3 z4
    rw [x_nx]
    refine ⟨by simp only [a1t], ?_⟩
    simp only [] at z1 z2 z3 z4 hg' hkp ⊢
    have zn:=hkp n (by omega) hne
    simp (disch:=omega) only [a0c,a0d] at zn
    generalize appd ds _=m5 at z1 z2 z3 z4 zn hg' ⊢
    simp (maxSteps:=1000000) (disch:=omega) only [rg,gD,simprocAttr,z1,z4,zn,hg'.cell,dagV]
    have hg2:Gro 5 (n+2) (upd m5 4 (some (.arr 4 [wdU w v']))) 2 v' (mv dagV (outS w.dags d k 0 k++[d])):=Gro.keep (l:=mv dagV _) (by rw [← a5k]; exact hg') (by omega) (fun id h1 h2 => by simp only [upd]; rw [if_neg (by omega)])
    unfold wdU at hg2
    refine a4h (lo:=5) (bt:=40) hg2 (by simp only []; omega) (ys:=[dagV w.dags[k]]) (by rfl) (by simp) (by rw [a0k]; simp; omega) fun v2 fp2 ds2 hg3 hlo2 hkp2 => ?_
    have y1:=hlo2 1 (by omega)
    have y2:=hlo2 2 (by omega)
    have y3:=hlo2 3 (by omega)
    have y4:=hlo2 4 (by omega)
    simp (disch:=omega) only [a0c,a0d,z1,z2,z3] at y1 y2 y3 y4
    rw [x_nx]
    refine ⟨by simp only [a1t], ?_⟩
    try simp only [] at y1 y2 y3 y4 hg3 ⊢
    generalize appd ds2 _=m6 at y1 y2 y3 y4 hg3 ⊢
    simp (maxSteps:=1000000) (disch:=omega) only [rg,gD,simprocAttr,y4,hg3.cell]
    exact fin2 _ _ v2 _ (by omega) (by simp (disch:=omega) only [a0d,a0c,wo_0,wo_1,wo_2,y1]) (by simp (disch:=omega) only [a0d,a0c,wo_0,wo_1,wo_2,y2]) (by simp (disch:=omega) only [a0d,a0c,wo_0,wo_1,wo_2,y3]) (by simp (disch:=omega) only [a0d,a0c,wo_0,wo_1,wo_2,wdU]) (Gro.keep (l:=mv dagV _) (by rw [← a5k]; exact hg3) (by omega) (fun id h1 h2 => by simp only [upd]; rw [if_neg (by omega)])) (by simp) _ rfl
  · -- behind its place
    rw [c5e hk hki (by omega)] at fin2
    simp (maxSteps:=1000000) (disch:=omega) only [rg,gD,simprocAttr,show (k:Int) < w.dags.length by omega,a0m hk,dagV,e1,e4,decide_eq_true hki]
    refine a4h (lo:=5) (bt:=40) (hgk _ _) (by simp only []; omega) (ys:=[dagV w.dags[k]]) (by rfl) (by simp) (by rw [a0k]; simp; omega) fun v' fp ds hg' hlo hkp => ?_
    have z1:=hlo 1 (by omega)
    have z2:=hlo 2 (by omega)
    have z3:=hlo 3 (by omega)
    have z4:=hlo 4 (by omega)
    simp (disch:=omega) only [a0c,a0d,e1,e2,e3,e4] at z1 z2 z3 z4
    rw [x_nx]
    refine ⟨by simp only [a1t], ?_⟩
    simp only [] at z1 z2 z3 z4 hg' hkp ⊢
    generalize appd ds _=m5 at z1 z2 z3 z4 hg' ⊢
    simp (maxSteps:=1000000) (disch:=omega) only [rg,gD,simprocAttr,z4,hg'.cell]
    exact fin2 _ _ v' _ (by omega) (by simp (disch:=omega) only [a0d,a0c,wo_0,wo_1,wo_2,z1]) (by simp (disch:=omega) only [a0d,a0c,wo_0,wo_1,wo_2,z2]) (by simp (disch:=omega) only [a0d,a0c,wo_0,wo_1,wo_2,z3]) (by simp (disch:=omega) only [a0d,a0c,wo_0,wo_1,wo_2,wdU]) (Gro.keep (l:=mv dagV _) (by rw [← a5k]; exact hg') (by omega) (fun id h1 h2 => by simp only [upd]; rw [if_neg (by omega)])) (by simp; omega) _ rfl
section
open Classical in
theorem d5y (w:Wd) (c:Cmd) (ok:WdOk w) (hdd:a2w c.dag):PCall Tryz.prog 15 [wdV w,cmdV c] (waV (doS w c)):=by
  have hnr:=ok.runs
  refine en15 (by simp) (by simp [a0b,a1n,a3y]) ?_
  have hwr:=c2t w ok
  unfold wdV at hwr
  by_cases h:WR w
  case neg =>
    rw [decide_eq_false h] at hwr
    simp (maxSteps:=1000000) (disch:=omega) only [rg,gD,simprocAttr,c15,wdV,cmdV]
    refine ⟨_,hwr, ?_⟩
    simp (maxSteps:=1000000) (disch:=omega) only [rg,gD,simprocAttr,wdV]
    refine ⟨_,a2v 1, ?_⟩
    simp (maxSteps:=1000000) (disch:=omega) only [rg,gD,simprocAttr,ansV]
    (refine a0f rfl ?_ ?_<;>simp [pack,lo,loL,V.closed,a0b,a0a,doS,h,waV,whyA,wdV,ansV,a0h,a0v,a0l a0y,a0l a1i,a0l a0n,a0a a0i,a0g,a0e])
  have hds:doS w c=a1u w c:=by unfold doS; rw [if_pos h]
  rw [hds]
  rw [decide_eq_true h] at hwr
  unfold cmdV
  by_cases k1:c.kind=1
  · have hz:a1u w c=a2t w c.dag:=by unfold a1u; rw [ if_pos k1]
    have hcall:=c5j w c.dag ok h hdd
    rw [hz]
    generalize a2t w c.dag=z at hcall
    unfold waV at hcall
    unfold wdV at hcall
    rw [show dagV c.dag=.agg [.str c.dag.name,a0j c.dag.tasks] from rfl] at hcall
    simp (maxSteps:=1000000) (disch:=omega) only [rg,gD,simprocAttr,c15,wdV,cmdV]
    refine ⟨_,hwr, ?_⟩
    simp (maxSteps:=1000000) (disch:=omega) only [rg,gD,simprocAttr,eq_true k1]
    refine ⟨_,hcall, ?_⟩
    simp (maxSteps:=1000000) (disch:=omega) only [rg,gD,simprocAttr,wdV,ansV]
    (refine a0f rfl ?_ ?_<;>simp [pack,lo,loL,V.closed,a0b,a0a,waV,whyA,wdV,ansV,a0h,a0v,a0l a0y,a0l a1i,a0l a0n,a0a a0i,a0g,a0e])
  by_cases k2:c.kind=2
  · have hz:a1u w c=a5i w c.key c.name:=by unfold a1u; rw [if_neg k1,if_pos k2]
    have hcall:=c6g w c.key c.name ok h
    rw [hz]
    generalize a5i w c.key c.name=z at hcall
    unfold waV at hcall
    unfold wdV at hcall
    simp (maxSteps:=1000000) (disch:=omega) only [rg,gD,simprocAttr,c15,wdV,cmdV]
    refine ⟨_,hwr, ?_⟩
    simp (maxSteps:=1000000) (disch:=omega) only [rg,gD,simprocAttr,eq_true k2,eq_false k1]
    refine ⟨_,hcall, ?_⟩
    simp (maxSteps:=1000000) (disch:=omega) only [rg,gD,simprocAttr,wdV,ansV]
    (refine a0f rfl ?_ ?_<;>simp [pack,lo,loL,V.closed,a0b,a0a,waV,whyA,wdV,ansV,a0h,a0v,a0l a0y,a0l a1i,a0l a0n,a0a a0i,a0g,a0e])
  by_cases k3:c.kind=3
  · have hz:a1u w c=a5s w:=by unfold a1u; rw [if_neg k1,if_neg k2,if_pos k3]
    have hcall:=c9s w ok h
    rw [hz]
    generalize a5s w=z at hcall
    unfold waV at hcall
    unfold wdV at hcall
    simp (maxSteps:=1000000) (disch:=omega) only [rg,gD,simprocAttr,c15,wdV,cmdV]
    refine ⟨_,hwr, ?_⟩
    simp (maxSteps:=1000000) (disch:=omega) only [rg,gD,simprocAttr,eq_true k3,eq_false k1,eq_false k2]
    refine ⟨_,hcall, ?_⟩
    simp (maxSteps:=1000000) (disch:=omega) only [rg,gD,simprocAttr,wdV,ansV]
    (refine a0f rfl ?_ ?_<;>simp [pack,lo,loL,V.closed,a0b,a0a,waV,whyA,wdV,ansV,a0h,a0v,a0l a0y,a0l a1i,a0l a0n,a0a a0i,a0g,a0e])
  by_cases k4:c.kind=4
  · have hz:a1u w c=a3e w (fun t s => a2y t s w.now) c.token:=by unfold a1u; rw [if_neg k1,if_neg k2,if_neg k3,if_pos k4]
    have hcall:=b2l w 0 c.token [] ok h
    rw [show a9l 0 w.now []=(fun t s => a2y t s w.now) from rfl] at hcall
    rw [hz]
    generalize a3e w (fun t s => a2y t s w.now) c.token=z at hcall
    unfold waV at hcall
    unfold wdV at hcall
    simp (maxSteps:=1000000) (disch:=omega) only [rg,gD,simprocAttr,c15,wdV,cmdV]
    refine ⟨_,hwr, ?_⟩
    simp (maxSteps:=1000000) (disch:=omega) only [rg,gD,simprocAttr,eq_true k4,eq_false k1,eq_false k2,eq_false k3]
    refine ⟨_,hcall, ?_⟩
    simp (maxSteps:=1000000) (disch:=omega) only [rg,gD,simprocAttr,wdV,ansV]
    (refine a0f rfl ?_ ?_<;>simp [pack,lo,loL,V.closed,a0b,a0a,waV,whyA,wdV,ansV,a0h,a0v,a0l a0y,a0l a1i,a0l a0n,a0a a0i,a0g,a0e])
  by_cases k5:c.kind=5
  · have hz:a1u w c=a3e w (fun t s => a2o s c.text) c.token:=by unfold a1u; rw [if_neg k1,if_neg k2,if_neg k3,if_neg k4,if_pos k5]
    have hcall:=b2l w 1 c.token c.text ok h
    rw [show a9l 1 w.now c.text=(fun t s => a2o s c.text) from rfl] at hcall
    rw [hz]
    generalize a3e w (fun t s => a2o s c.text) c.token=z at hcall
    unfold waV at hcall
    unfold wdV at hcall
    simp (maxSteps:=1000000) (disch:=omega) only [rg,gD,simprocAttr,c15,wdV,cmdV]
    refine ⟨_,hwr, ?_⟩
    simp (maxSteps:=1000000) (disch:=omega) only [rg,gD,simprocAttr,eq_true k5,eq_false k1,eq_false k2,eq_false k3,eq_false k4]
    refine ⟨_,hcall, ?_⟩
    simp (maxSteps:=1000000) (disch:=omega) only [rg,gD,simprocAttr,wdV,ansV]
    (refine a0f rfl ?_ ?_<;>simp [pack,lo,loL,V.closed,a0b,a0a,waV,whyA,wdV,ansV,a0h,a0v,a0l a0y,a0l a1i,a0l a0n,a0a a0i,a0g,a0e])
  by_cases k6:c.kind=6
  · have hz:a1u w c=a3e w (fun t s => a2c t s w.now) c.token:=by unfold a1u; rw [if_neg k1,if_neg k2,if_neg k3,if_neg k4,if_neg k5,if_pos k6]
    have hcall:=b2l w 2 c.token [] ok h
    rw [show a9l 2 w.now []=(fun t s => a2c t s w.now) from rfl] at hcall
    rw [hz]
    generalize a3e w (fun t s => a2c t s w.now) c.token=z at hcall
    unfold waV at hcall
    unfold wdV at hcall
    simp (maxSteps:=1000000) (disch:=omega) only [rg,gD,simprocAttr,c15,wdV,cmdV]
    refine ⟨_,hwr, ?_⟩
    simp (maxSteps:=1000000) (disch:=omega) only [rg,gD,simprocAttr,eq_true k6,eq_false k1,eq_false k2,eq_false k3,eq_false k4,eq_false k5]
    refine ⟨_,hcall, ?_⟩
    simp (maxSteps:=1000000) (disch:=omega) only [rg,gD,simprocAttr,wdV,ansV]
    (refine a0f rfl ?_ ?_<;>simp [pack,lo,loL,V.closed,a0b,a0a,waV,whyA,wdV,ansV,a0h,a0v,a0l a0y,a0l a1i,a0l a0n,a0a a0i,a0g,a0e])
  by_cases k7:c.kind=7
  · have hz:a1u w c=a3n w c.key:=by unfold a1u; rw [if_neg k1,if_neg k2,if_neg k3,if_neg k4,if_neg k5,if_neg k6,if_pos k7]
    have hcall:=b8q w c.key ok h
    rw [hz]
    generalize a3n w c.key=z at hcall
    unfold waV at hcall
    unfold wdV at hcall
    simp (maxSteps:=1000000) (disch:=omega) only [rg,gD,simprocAttr,c15,wdV,cmdV]
    refine ⟨_,hwr, ?_⟩
    simp (maxSteps:=1000000) (disch:=omega) only [rg,gD,simprocAttr,eq_true k7,eq_false k1,eq_false k2,eq_false k3,eq_false k4,eq_false k5,eq_false k6]
    refine ⟨_,hcall, ?_⟩
    simp (maxSteps:=1000000) (disch:=omega) only [rg,gD,simprocAttr,wdV,ansV]
    (refine a0f rfl ?_ ?_<;>simp [pack,lo,loL,V.closed,a0b,a0a,waV,whyA,wdV,ansV,a0h,a0v,a0l a0y,a0l a1i,a0l a0n,a0a a0i,a0g,a0e])
  by_cases k8:c.kind=8
  · have hz:a1u w c=a6f w c.time:=by unfold a1u; rw [if_neg k1,if_neg k2,if_neg k3,if_neg k4,if_neg k5,if_neg k6,if_neg k7,if_pos k8]
    have hcall:=d0m w c.time
    rw [hz]
    generalize a6f w c.time=z at hcall
    unfold waV at hcall
    unfold wdV at hcall
    simp (maxSteps:=1000000) (disch:=omega) only [rg,gD,simprocAttr,c15,wdV,cmdV]
    refine ⟨_,hwr, ?_⟩
    simp (maxSteps:=1000000) (disch:=omega) only [rg,gD,simprocAttr,eq_true k8,eq_false k1,eq_false k2,eq_false k3,eq_false k4,eq_false k5,eq_false k6,eq_false k7]
    refine ⟨_,hcall, ?_⟩
    simp (maxSteps:=1000000) (disch:=omega) only [rg,gD,simprocAttr,wdV,ansV]
    (refine a0f rfl ?_ ?_<;>simp [pack,lo,loL,V.closed,a0b,a0a,waV,whyA,wdV,ansV,a0h,a0v,a0l a0y,a0l a1i,a0l a0n,a0a a0i,a0g,a0e])
  by_cases k9:c.kind=9
  · have hz:a1u w c=a5n w c.key:=by unfold a1u; rw [if_neg k1,if_neg k2,if_neg k3,if_neg k4,if_neg k5,if_neg k6,if_neg k7,if_neg k8,if_pos k9]
    rw [hz]
    have hat:=b3c w c.key (by omega)
    unfold wdV at hat
    rw [b8a h.rruns] at hat
    simp (maxSteps:=1000000) (disch:=omega) only [rg,gD,simprocAttr,c15,wdV,cmdV]
    refine ⟨_,hwr, ?_⟩
    simp (maxSteps:=1000000) (disch:=omega) only [rg,gD,simprocAttr,eq_true k9,eq_false k1,eq_false k2,eq_false k3,eq_false k4,eq_false k5,eq_false k6,eq_false k7,eq_false k8]
    refine ⟨_,hat, ?_⟩
    by_cases c1:c.key∈a1k w.runs
    case neg =>
      rw [if_neg c1]
      simp (maxSteps:=1000000) (disch:=omega) only [rg,gD,simprocAttr,ixO,show (-1:Int) < 0 by omega]
      refine ⟨_,a2v 190, ?_⟩
      simp (maxSteps:=1000000) (disch:=omega) only [rg,gD,simprocAttr,ansV,wdV]
      (refine a0f rfl ?_ ?_<;>simp [pack,lo,loL,V.closed,a0b,a0a,a5n,c1,waV,whyA,wdV,ansV,a0h,a0v,a0l a0y,a0l a1i,a0l a0n,a0a a0i,a0g,a0e])
    rw [if_pos c1]
    obtain ⟨hi,hk⟩:=a6j h.rruns c1
    have hrr:=(h.runs _ (List.getElem_mem hi)).2
    obtain ⟨hts,hss,hin,hnl⟩:=hrr.small
    have hse:=a7r w.runs[lbR c.key w.runs] w.now (by omega) hrr.len hin (fun t ht => by have:=hnl t ht; omega)
    have hst:a5n w c.key=(w,⟨0,(a1m w.now w.runs[lbR c.key w.runs]).key,0,0,(a1m w.now w.runs[lbR c.key w.runs]).is,(a1m w.now w.runs[lbR c.key w.runs]).states⟩):=by
      unfold a5n; rw [if_neg (fun e => e c1),a2k hi]
    rw [hst]
    generalize a1m w.now w.runs[lbR c.key w.runs]=z at hse
    generalize lbR c.key w.runs=i at hi hk hse
    simp (maxSteps:=1000000) (disch:=omega) only [rg,gD,simprocAttr,ixO,show ¬ (i:Int) < 0 by omega,wdV,a0m hi,a1e,Int.toNat_natCast]
    refine ⟨_,hse, ?_⟩
    simp (maxSteps:=1000000) (disch:=omega) only [rg,gD,simprocAttr,a2a,rnV,ansV,a0h]
    refine ⟨by simp [a1h,disj,nthL],by simp [a1h,disj,nthL], ?_⟩
    try simp only []
    (refine a0f rfl ?_ ?_<;>simp [pack,lo,loL,V.closed,a0b,a0a,waV,whyA,wdV,ansV,a0h,a0v,a0l a0y,a0l a1i,a0l a0n,a0a a0i,a0g,a0e])
  by_cases k10:c.kind=10
  · have hz:a1u w c=(w,whyA 0):=by unfold a1u; rw [if_neg k1,if_neg k2,if_neg k3,if_neg k4,if_neg k5,if_neg k6,if_neg k7,if_neg k8,if_neg k9,if_pos k10]
    rw [hz]
    simp (maxSteps:=1000000) (disch:=omega) only [rg,gD,simprocAttr,c15,wdV,cmdV]
    refine ⟨_,hwr, ?_⟩
    simp (maxSteps:=1000000) (disch:=omega) only [rg,gD,simprocAttr,wdV,eq_true k10,eq_false k1,eq_false k2,eq_false k3,eq_false k4,eq_false k5,eq_false k6,eq_false k7,eq_false k8,eq_false k9]
    (refine a0f rfl ?_ ?_<;>simp [pack,lo,loL,V.closed,a0b,a0a,waV,whyA,wdV,ansV,a0h,a0v,a0l a0y,a0l a1i,a0l a0n,a0a a0i,a0g,a0e])
  have hz:a1u w c=(w,whyA 230):=by unfold a1u; rw [if_neg k1,if_neg k2,if_neg k3,if_neg k4,if_neg k5,if_neg k6,if_neg k7,if_neg k8,if_neg k9,if_neg k10]
  rw [hz]
  simp (maxSteps:=1000000) (disch:=omega) only [rg,gD,simprocAttr,c15,wdV,cmdV]
  refine ⟨_,hwr, ?_⟩
  simp (maxSteps:=1000000) (disch:=omega) only [rg,gD,simprocAttr,wdV,eq_false k1,eq_false k2,eq_false k3,eq_false k4,eq_false k5,eq_false k6,eq_false k7,eq_false k8,eq_false k9,eq_false k10]
  refine ⟨_,a2v 230, ?_⟩
  simp (maxSteps:=1000000) (disch:=omega) only [rg,gD,simprocAttr,ansV]
  (refine a0f rfl ?_ ?_<;>simp [pack,lo,loL,V.closed,a0b,a0a,waV,whyA,wdV,ansV,a0h,a0v,a0l a0y,a0l a1i,a0l a0n,a0a a0i,a0g,a0e])
end
abbrev jkE (sz:Nat):V:=.agg (List.replicate sz .jk)
abbrev junk (sz k:Nat):List V:=List.replicate k (jkE sz)
theorem d6l {g:G}:∀ (xs:List Value),(∀ u∈xs,u.oneCell'=true)→RC g (List.replicate xs.length .jk) xs
  | [],_ => by simp [RC]
  | x::xs,h => by
    simp only [List.length_cons,List.replicate_succ,RC]
    exact ⟨x,xs,rfl,by simpa only [R] using h x (by simp),d6l xs fun u hu => h u (by simp [hu])⟩
theorem b6o {g:G}:∀ (n:Nat) (xs:List Value),RC g (List.replicate n .jk) xs→∀ u∈xs,u.oneCell'=true
  | 0,xs,h,u,hu => by simp [RC] at h; subst h; simp at hu
  | n+1,xs,h,u,hu => by
    simp only [List.replicate_succ,RC] at h
    obtain ⟨y,ys,rfl,h1,h2⟩:=h
    simp only [R] at h1
    rcases List.mem_cons.1 hu with rfl | hu
    · exact h1
    · exact b6o n ys h2 u hu
theorem c7h {g:G} {sz:Nat}:∀ (k:Nat) (xs:List Value),xs.length=k*sz→(∀ u∈xs,u.oneCell'=true)→RL g (junk sz k) xs
  | 0,xs,hl,_ => by simp [List.length_eq_zero_iff] at hl; subst hl; simp [junk,RL]
  | k+1,xs,hl,h => by
    rw [Nat.succ_mul] at hl
    have hs:sz≤xs.length:=by omega
    simp only [junk,List.replicate_succ,RL]
    refine ⟨.agg (xs.take sz).toArray,xs.drop sz,by simp [Value.cells],⟨rfl, ?_⟩,c7h k _ (by simp; omega) fun u hu => h u (List.mem_of_mem_drop hu)⟩
    simp only [R,jkE]
    refine ⟨_,rfl, ?_,by intro v hv; rw [List.mem_replicate] at hv; rw [hv.2]; rfl⟩
    have:=d6l (g:=g) (xs.take sz) fun u hu => h u (List.mem_of_mem_take hu)
    rwa [List.length_take,Nat.min_eq_left hs] at this
theorem b2h {g:G} {sz:Nat}:∀ (k:Nat) (xs:List Value),RL g (junk sz k) xs→∀ u∈xs,u.oneCell'=true
  | 0,xs,h,u,hu => by simp [junk,RL] at h; subst h; simp at hu
  | k+1,xs,h,u,hu => by
    simp only [junk,List.replicate_succ,RL] at h
    obtain ⟨y,ys,rfl,⟨_,h1⟩,h2⟩:=h
    simp only [jkE,R] at h1
    obtain ⟨zs,rfl,h1,_⟩:=h1
    rcases List.mem_append.1 hu with hu | hu
    · exact b6o sz _ h1 u (by simpa [Value.cells] using hu)
    · exact b2h k ys h2 u hu
theorem RL.cut {g:G}:∀ {l l':List V} {xs:List Value},RL g (l++l') xs→∃ az bs,xs=az++bs∧RL g l az∧RL g l' bs
  | [],l',xs,h => ⟨[],xs,rfl,by simp [RL],h⟩
  | v::vs,l',xs,h => by
    simp only [List.cons_append,RL] at h
    obtain ⟨y,ys,rfl,h1,h2⟩:=h
    obtain ⟨az,bs,rfl,p,q⟩:=RL.cut h2
    exact ⟨y.cells.toList++az,bs,by simp,by simp only [RL]; exact ⟨y,az,rfl,h1,p⟩,q⟩
theorem RS.sub {g:G} {m m':Hm} {w:World} (h:RS g m w) (hs:∀ id o,m' id=some o→m id=some o):RS g m' w :=
  ⟨h.fro,fun id o k => h.live id o (hs id o k),fun id id' o o' b s n s' n' k k' => h.inj id id' o o' b s n s' n' (hs _ _ k) (hs _ _ k')⟩
theorem b5p {P:Program} {f sz n id:Nat} {l l':List V} {rest:List V} {H:Hp} (h2:2≤sz) (hn:0 < n) (hl:H.m id=some (.arr sz l)) (hll:l.length=n) (hl':l'.length=n+1) (hz':∀ v∈l',v.size=sz) (hid:id < H.n)
    (hb:b1j P f)
    (hc:∀ c,n≤c→ACall P f (.slc id 0 n c::rest) ⟨H.n,upd H.m id (some (.arr sz (l++junk sz (c - n))))⟩ [id] (.sl H.n 0 (n+1)) [(id,none),(H.n,some (.arr sz l'))] 1 ∨
      (n < c∧ACall P f (.slc id 0 n c::rest) ⟨H.n,upd H.m id (some (.arr sz (l++junk sz (c - n))))⟩ [id] (.slc id 0 (n+1) c) [(id,some (.arr sz (l'++junk sz (c - (n+1)))))] 0)) :
    ACall P f (.sl id 0 n::rest) H [id] (.sl H.n 0 (n+1)) [(id,none),(H.n,some (.arr sz l'))] 1:=by
  refine ⟨hb,by simp,fun m g w xs hag hfr hs hx => ?_⟩
  have hmi:m id=some (.arr sz l):=(hag id (by simp)).trans hl
  obtain ⟨b,nb,cs,e,ys,post,o1,o2,o3,o4,o5,o6,o7,o8⟩:=hs.live id _ hmi
  simp only [RC] at hx
  obtain ⟨y,zs,hxe,hy,hrest⟩:=hx
  simp only [R] at hy
  obtain ⟨b2,sz2,nb2,a,c,q1,rfl,q3,q4⟩:=hy
  rw [o1] at q1
  simp only [Option.some.injEq,Prod.mk.injEq] at q1
  obtain ⟨rfl,rfl,rfl⟩:=q1
  have hyl:ys.length=n*sz:=by rw [RL.length o5 o6,hll]
  have hpl:ys.length+post.length=nb:=by
    have:cs.toList.length=nb:=by simpa using o3
    rw [o7] at this; simpa using this
  obtain ⟨rfl,q5⟩:a=⟨b,0*sz,none⟩∧(0+c)*sz≤nb:=q4.resolve_right (by omega)
  have hnid:H.n≠id:=by omega
  -- the row with its room
  have hroom:(c - n)*sz≤post.length:=by
    have:(c - n)*sz+n*sz=c*sz:=by rw [← Nat.add_mul]; congr 1; omega
    rw [Nat.zero_add] at q5; omega
  have hjk:RL g (junk sz (c - n)) (post.take ((c - n)*sz)):=c7h _ _ (by rw [List.length_take]; omega) fun u hu => o8.2 u (List.mem_of_mem_take hu)
  have hs1:RS g (upd m id (some (.arr sz (l++junk sz (c - n))))) w:=by
    refine ⟨hs.fro,fun j o k => ?_,fun i i' p p' bb s nn s' nn' k k' => ?_⟩
    · by_cases hj:j=id
      · subst hj
        simp only [upd,if_true,Option.some.injEq] at k
        subst k
        refine ⟨b,nb,cs,e,ys++post.take ((c - n)*sz),post.drop ((c - n)*sz),o1,o2,o3,o4,RL.append o5 hjk, ?_,by rw [o7,List.append_assoc,List.take_append_drop],o8.1,fun u hu => o8.2 u (List.mem_of_mem_drop hu)⟩
        intro v hv
        rcases List.mem_append.1 hv with hv | hv
        · exact o6 v hv
        · rw [List.mem_replicate] at hv; rw [hv.2]; simp [V.size]
      · simp only [upd,if_neg hj] at k; exact hs.live j o k
    · have ho:∀ i p,upd m id (some (.arr sz (l++junk sz (c - n)))) i=some p→∃ p',m i=some p':=fun i p k => by
        by_cases hi:i=id
        · subst hi; exact ⟨_,hmi⟩
        · simp only [upd,if_neg hi] at k; exact ⟨_,k⟩
      obtain ⟨_,k1⟩:=ho _ _ k
      obtain ⟨_,k2⟩:=ho _ _ k'
      exact hs.inj _ _ _ _ _ _ _ _ _ k1 k2
  have hown:∀ bb,Own g (upd m id (some (.arr sz (l++junk sz (c - n))))) bb→Own g m bb:=by
    rintro bb ⟨i,o,s,n,k1,k2⟩
    by_cases hi:i=id
    · subst hi; exact ⟨_,_,_,_,hmi,k2⟩
    · simp only [upd,if_neg hi] at k1; exact ⟨_,_,_,_,k1,k2⟩
  have hx1:RC g (.slc id 0 n c::rest) xs.toList:=by
    simp only [RC]
    exact ⟨_,zs,hxe,by simp only [R]; exact ⟨b,sz,nb,_,o1,rfl,q3,.inl ⟨rfl,q5⟩⟩,hrest⟩
  have hag1:∀ i∈[id],upd m id (some (.arr sz (l++junk sz (c - n)))) i=(⟨H.n,upd H.m id (some (.arr sz (l++junk sz (c - n))))⟩:Hp).m i:=by
    intro i hi; simp at hi; subst hi; simp [upd]
  rcases hc c q3 with ⟨_,_,h⟩ | ⟨hnc,_,_,h⟩
  · have hfr1:b8o g (upd m id (some (.arr sz (l++junk sz (c - n))))) H.n 1:=fun j h1 h2 => by
      have hj:j≠id:=by omega
      refine ⟨(hfr j h1 h2).1, ?_⟩
      simp only [upd,if_neg hj]; exact (hfr j h1 h2).2
    refine (h _ g w xs hag1 hfr1 hs1 hx1).mono ?_
    rintro ee w' ⟨x,g',r1,r2,r3,r4,r5⟩
    have he:appd [(id,none),(H.n,some (.arr sz l'))] (upd m id (some (.arr sz (l++junk sz (c - n)))))=appd [(id,none),(H.n,some (.arr sz l'))] m:=by
      funext j
      simp only [appd,upd]
      by_cases h1:j=H.n
      · rw [if_pos h1,if_pos h1]
      · rw [if_neg h1,if_neg h1]
        by_cases h2:j=id
        · rw [if_pos h2,if_pos h2]
        · rw [if_neg h2,if_neg h2,if_neg h2]
    rw [he] at r3 r5
    exact ⟨x,g',r1,r2,r3,r4,⟨r5.size,fun bb hb ho => r5.old bb hb fun hh => ho (hown bb hh),r5.le,fun bb hh => (r5.own bb hh).imp (fun k => k) (hown bb),fun bb cc hh => (r5.froz bb cc hh).imp (fun k => k) fun k => k.imp (fun k => k) (hown bb),r5.os,r5.tape,r5.output⟩⟩
  · have hfr1:b8o g (upd m id (some (.arr sz (l++junk sz (c - n))))) H.n 0:=fun j h1 h2 => by omega
    refine (h _ g w xs hag1 hfr1 hs1 hx1).mono ?_
    rintro ee w' ⟨x,g',r1,r2,r3,r4,r5⟩
    have hι:∀ j,g'.ι j=g.ι j:=fun j => r4 j (by omega)
    have hn0:=(hfr H.n (Nat.le_refl _) (by omega)).1
    have hm0:=(hfr H.n (Nat.le_refl _) (by omega)).2
    -- the new name
    let g2:G:=⟨fun j => if j=H.n then g.ι id else g.ι j,g'.F⟩
    have hle:g'.le g2:=⟨fun j p k => by
      rw [hι] at k
      have:j≠H.n:=by intro e; subst e; rw [hn0] at k; cases k
      simp only [g2,if_neg this]; exact k,fun _ _ k => k⟩
    have e1:∀ j o,appd [(id,none),(H.n,some (.arr sz l'))] m j=some o→(j=H.n∧o=.arr sz l')∨(j≠H.n∧j≠id∧appd [(id,some (.arr sz (l'++junk sz (c - (n+1)))))] (upd m id (some (.arr sz (l++junk sz (c - n))))) j=some o):=by
      intro j o k
      simp only [appd,upd] at k ⊢
      by_cases h1:j=H.n
      · rw [if_pos h1] at k; simp at k; exact .inl ⟨h1,k.symm⟩
      · rw [if_neg h1] at k
        by_cases h2:j=id
        · rw [if_pos h2] at k; cases k
        · rw [if_neg h2] at k; exact .inr ⟨h1,h2,by rw [if_neg h2,if_neg h2]; exact k⟩
    have hmn:appd [(id,some (.arr sz (l'++junk sz (c - (n+1)))))] (upd m id (some (.arr sz (l++junk sz (c - n))))) id=some (.arr sz (l'++junk sz (c - (n+1)))):=by simp [appd,upd]
    have hlive:=r3.live id _ hmn
    refine ⟨x,g2,r1, ?_,⟨r3.fro, ?_, ?_⟩, ?_,⟨r5.size,fun bb hb ho => r5.old bb hb fun hh => ho (hown bb hh),r5.le.trans hle, ?_,fun bb cc hh => (r5.froz bb cc hh).imp (fun k => k) fun k => k.imp (fun k => k) (hown bb),r5.os,r5.tape,r5.output⟩⟩
    · simp only [R] at r2 ⊢
      obtain ⟨b3,s3,n3,a3,k1,k2,k3,k4⟩:=r2
      rw [hι] at k1
      exact ⟨b3,s3,n3,a3,c,by simp only [g2,if_true]; exact k1,k2,k3,k4⟩
    · intro j o k
      rcases e1 j o k with ⟨rfl,rfl⟩ | ⟨h1,h2,h3⟩
      · obtain ⟨b3,n3,cs3,e3,ys3,post3,p1,p2,p3,p4,p5,p6,p7,p8⟩:=hlive
        obtain ⟨az,bs,rfl,p9,p10⟩:=RL.cut p5
        rw [hι] at p1
        refine ⟨b3,n3,cs3,e3,az,bs++post3,by simp only [g2,if_true]; exact p1,p2,p3,p4,RL.mono hle _ _ p9,hz',by rw [p7,List.append_assoc],p8.1,fun u hu => ?_⟩
        rcases List.mem_append.1 hu with hu | hu
        · exact b2h _ _ p10 u hu
        · exact p8.2 u hu
      · exact (r3.live j o h3).keep hle fun b s n k => ⟨rfl,(r3.live j o h3).unF k⟩
    · have e2:∀ j o,appd [(id,none),(H.n,some (.arr sz l'))] m j=some o→∃ j' o',(j=H.n∧j'=id∨j≠H.n∧j'=j∧j≠id)∧appd [(id,some (.arr sz (l'++junk sz (c - (n+1)))))] (upd m id (some (.arr sz (l++junk sz (c - n))))) j'=some o'∧g'.ι j'=g2.ι j:=by
        intro j o k
        rcases e1 j o k with ⟨rfl,rfl⟩ | ⟨h1,h2,h3⟩
        · exact ⟨id,_,.inl ⟨rfl,rfl⟩,hmn,by simp only [g2,if_true,hι]⟩
        · exact ⟨j,o,.inr ⟨h1,rfl,h2⟩,h3,by simp only [g2,if_neg h1,hι]⟩
      intro i i' p p' b s n s' n' k k' j j'
      obtain ⟨i1,p1,a1,a2,a3⟩:=e2 i p k
      obtain ⟨i2,p2,b1,b2,b3⟩:=e2 i' p' k'
      have:=r3.inj i1 i2 p1 p2 b s n s' n' a2 b2 (a3.trans j) (b3.trans j')
      rcases a1 with ⟨a,a'⟩ | ⟨a,a',a''⟩<;>rcases b1 with ⟨c,c'⟩ | ⟨c,c',c''⟩
      · rw [a,c]
      · exact absurd (by rw [← c',← this,a']) c''
      · exact absurd (by rw [← a',this,c']) a''
      · rw [← a',← c',this]
    · intro j hj
      have:j≠H.n:=by omega
      simp only [g2,if_neg this]
    · rintro bb ⟨j,o,s,n,k1,k2⟩
      rcases e1 j o k1 with ⟨rfl,rfl⟩ | ⟨h1,h2,h3⟩
      · simp only [g2,if_true] at k2
        exact (r5.own bb ⟨id,_,s,n,hmn,(hι id).trans k2⟩).imp (fun k => k) (hown bb)
      · simp only [g2,if_neg h1] at k2
        exact (r5.own bb ⟨j,o,s,n,h3,(hι j).trans k2⟩).imp (fun k => k) (hown bb)
theorem b0o {P:Program} (w:World) (tS tR e:TypeId) (ht:P.underlying tS=some (.slice e)) (size:Nat) (hz:∀ w,(Go.sizeOf e).run P w=.ok size w)
    (a b:Addr) (la ca lb cb:Nat) (hne:lb=0∨a.block≠b.block) (tA tB:TypeId) (kA kB:Nat)
    (hsa:w.shape? a.block=some (tA,kA)) (hsb:w.shape? b.block=some (tB,kB)) (hkA:kA≠0) (hkB:lb=0∨kB≠0)
    (hfa:lb=0∨w.frozen? b=false) (hfe:lb=0∨w.frozen? { block:=b.block,off:=kB }=false) :
    (Extern.SlicesOverlaps.overlaps #[tS,tS] #[tR] #[.slice (some a) la ca,.slice (some b) lb cb]).run P w=.ok (.bool false) w:=by
  change Sem.run P (α:=Value) (do
    let some t:=(#[tS,tS]:Array TypeId)[0]? | stuck "slices.overlaps: no parameter types"
    let .slice elem ← underlying t | stuck "slices.overlaps: slice type expected"
    let size ← sizeOf elem
    match (some a:Option Addr),(some b:Option Addr) with
    | some a,some b =>
      if la=0∨lb=0∨size=0 then pure (Value.bool false)
      else if a.block != b.block && (← frozen a) && (← frozen b) then unsupported .addressObserved
      else do
        if a.block != b.block then do
          noView a; noView b
          if ← mayBeOne a b then return Value.bool ((← choose (.extern "sameAddr.stringBytes" 2)) == 1)
        pure (Value.bool (a.block == b.block && a.off < b.off+lb*size && b.off < a.off+la*size))
    | _,_ => pure (Value.bool false)) w=_
  by_cases h0:la=0∨lb=0∨size=0
  · simp [run_underlying ht,hz,h0]
  · have hlb:lb≠0:=fun h => h0 (.inr (.inl h))
    have hne:=hne.resolve_left hlb
    have hkB:=hkB.resolve_left hlb
    have hfa:=hfa.resolve_left hlb
    have hfe:=hfe.resolve_left hlb
    have hnb:(a.block != b.block)=true:=by simpa using hne
    have hnb':(a.block == b.block)=false:=by simpa using hne
    cases kB with
    | zero => exact absurd rfl hkB
    | succ kB =>
      obtain ⟨kA,rfl⟩:∃ k,kA=k+1:=⟨kA - 1,by omega⟩
      by_cases f1:w.frozen? a=true
      · simp [run_underlying ht,hz,h0,hnb,hnb',frozen,noView,viewAt,mayBeOne,stringish,shape,Sem.run,hsa,hsb,hfa,hfe,f1]
      · simp only [Bool.not_eq_true] at f1
        by_cases f2:w.frozen? { block:=a.block,off:=kA+1 }=true
        · simp [run_underlying ht,hz,h0,hnb,hnb',frozen,noView,viewAt,mayBeOne,stringish,shape,Sem.run,hsa,hsb,hfa,hfe,f1,f2]
        · simp only [Bool.not_eq_true] at f2
          simp [run_underlying ht,hz,h0,hnb,hnb',frozen,noView,viewAt,mayBeOne,stringish,shape,Sem.run,hsa,hsb,hfa,hfe,f1,f2]
def OvOK (P:Program) (f sz:Nat):Prop:=∀ {st:St} {v:V} {id off len cap:Nat} {l:List V} {H:Hp},H.m id=some (.arr sz l)→c8h P f [.fsl st sz [v],.slc id off len cap] H [id] (.bool false)
theorem mkOv {P:Program} {f:FuncId} {fn:Func} {tS tR e:TypeId} {sz:Nat} {i:TypeInfo} (hf:P.funcs[f]?=some fn) (hname:(fn.name == "runtime.NumGoroutine")=false)
    (hb:fn.body.isNone=true) (hn:Extern.findNext fn=none) (he:Extern.find fn=some (Extern.SlicesOverlaps.overlaps #[tS,tS] #[tR])) (ht:P.underlying tS=some (.slice e)) (hi:P.info? e=some i) (h2:2≤sz):OvOK P f sz:=by
  intro st v id off len cap l H hl m g w xs hag hs hx
  have hmi:m id=some (.arr sz l):=(hag id (by simp)).trans hl
  obtain ⟨b,nb,cs,er,ys,post,o1,o2,o3,o4,o5,o6,o7,o8⟩:=hs.live id _ hmi
  simp only [RC] at hx
  obtain ⟨x1,r1,hxe,hx1,x2,r2,rfl,hx2,rfl⟩:=hx
  simp only [R] at hx1 hx2
  obtain ⟨a1,c1,xs1,rfl,k6,k7,_,_,_,_,k8⟩:=hx1
  obtain ⟨b2,s2,n2,a2,q1,rfl,q3,q4⟩:=hx2
  rw [o1] at q1
  simp only [Option.some.injEq,Prod.mk.injEq] at q1
  obtain ⟨rfl,rfl,rfl⟩:=q1
  obtain ⟨bz,oz,rfl,pre,pos,k9,_⟩:=k8.resolve_left (by simp)
  obtain ⟨e1,fr1,k10⟩:=hs.fro bz _ k9
  obtain rfl:xs=#[.slice (some ⟨bz,oz,none⟩) 1 c1,.slice (some a2) len cap]:=by apply Array.ext'; simpa using hxe
  refine ⟨.bool false, ?_,by simp [R]⟩
  have hfr:er.2=(0,0):=o8.1 (by omega)
  by_cases h0:len=0
  · subst h0
    rw [run_callFunc_extern hf hname hb hn he]
    have:(Extern.SlicesOverlaps.overlaps #[tS,tS] #[tR] #[.slice (some ⟨bz,oz,none⟩) 1 c1,.slice (some a2) 0 cap]).run P w=.ok (.bool false) w:=by
      change Sem.run P (α:=Value) (do
        let some t:=(#[tS,tS]:Array TypeId)[0]? | stuck "slices.overlaps: no parameter types"
        let .slice elem ← underlying t | stuck "slices.overlaps: slice type expected"
        let size ← sizeOf elem
        match (some (⟨bz,oz,none⟩:Addr):Option Addr),(some a2:Option Addr) with
        | some a,some b =>
          if 1=0∨0=0∨size=0 then pure (Value.bool false)
          else if a.block != b.block && (← frozen a) && (← frozen b) then unsupported .addressObserved
          else do
            if a.block != b.block then do
              noView a; noView b
              if ← mayBeOne a b then return Value.bool ((← choose (.extern "sameAddr.stringBytes" 2)) == 1)
            pure (Value.bool (a.block == b.block && a.off < b.off+0*size && b.off < a.off+1*size))
        | _,_ => pure (Value.bool false)) w=_
      simp [run_underlying ht,run_sizeOf w hi]
    rw [this]; simp [Result.andThen]
  obtain ⟨rfl,q5⟩:=q4.resolve_right (by omega)
  have hne:bz≠b:=by intro e; subst e; rw [o4.1] at k9; cases k9
  have hnb:nb≠0:=by
    intro e; subst e
    have:0 < (off+cap)*sz:=Nat.mul_pos (by omega) (by omega)
    omega
  rw [run_callFunc_extern hf hname hb hn he,b0o w tS tR e ht _ (fun w => run_sizeOf w hi) ⟨bz,oz,none⟩ ⟨b,off*sz,none⟩ 1 c1 len cap (.inr hne) e1 er.1 (pre++xs1++pos).toArray.size cs.size (by simp only [World.shape?,k10]) (by simp only [World.shape?,o2]) (by have:=RL.length k6 k7; simp at this; rw [List.size_toArray,List.length_append,List.length_append]; omega) (.inr (by omega)) (.inr (by simp [World.frozen?,o2,hfr])) (.inr (by simp [World.frozen?,o2,hfr]))]
  simp [Result.andThen]
section
theorem ACall.res {P:Program} {f:Nat} {vs:List V} {H:Hp} {fp:List Nat} {r r':V} {ds:List (Nat×Option Ob)} {k:Nat} (h:ACall P f vs H fp r ds k) (hr:∀ (g:G) x,R g r x→R g r' x):ACall P f vs H fp r' ds k:=by
  refine ⟨h.1,h.2.1,fun m g w xs h1 h2 h3 h4 => (h.2.2 m g w xs h1 h2 h3 h4).mono ?_⟩
  rintro e w' ⟨x,g',k1,k2,k3⟩
  exact ⟨x,g',k1,hr _ _ k2,k3⟩
theorem R.nil_full {g:G} {sz:Nat} {x:Value} (h:R g (.fsl .nil sz []) x):R g (.fsl .full sz []) x:=by
  simp only [R] at h ⊢
  obtain ⟨a,cap,xs,e1,e2,e3,e4,e5,e6,e7,e8⟩:=h
  have e9:=e5 (by simpa using e6)
  exact ⟨a,cap,xs,e1,e2,e3,e4,e5,by simp,by simp [e9],by simp⟩
def insC (sz bt:Nat) (z:V) (ov rot:Nat):C :=
  (.seq
 (.reg false [p (.mov (.k (.fsl .nil sz [])))] [(0,.v 0),(1,.v 1),(2,.v 2)])
 (.seq
 (.reg false [p (.mov (.v 0)),
 p (.mov (.v 1)),
 p (.slc sz (.r 1) (some (.r 0)) none none)] [(0,.v 0),(1,.v 1),(2,.v 2)])
 (.seq
 (.reg false [p (.mov (.v 2)),
 p (.len false (.r 0)),
 p (.mov (.r 0))] [(0,.v 0),(1,.v 1),(2,.v 2),(7,.r 0)])
 (.seq
 (.seq
 (.reg false [p (.mov (.v 7)),
 p (.bin .eql (.r 0) (.k (.int .i64 0)))] [(0,.v 0),(1,.v 1),(2,.v 2),(7,.v 7),(16,.r 0)])
 (.cond (.v 16)
 (.seq
 (.reg false [p (.mov (.v 0)),
 p (.mov (.r 0))] [(6,.r 0)])
 .ret)
 .skip))
 (.seq
 (.reg false [p (.mov (.v 0)),
 p (.len false (.r 0)),
 p (.mov (.r 0))] [(0,.v 0),(1,.v 1),(2,.v 2),(7,.v 7),(8,.r 0)])
 (.seq
 (.seq
 (.reg false [p (.mov (.v 1)),
 p (.mov (.v 8)),
 p (.bin .eql (.r 1) (.r 0))] [(0,.v 0),(1,.v 1),(2,.v 2),(7,.v 7),(8,.v 8),(22,.r 0)])
 (.cond (.v 22)
 (.seq
 (.reg false [p (.mov (.v 0)),
 p (.mov (.v 2)),
 p (.app sz bt (.r 1) (.r 0)),
 p (.mov (.r 0))] [(6,.r 0)])
 .ret)
 .skip))
 (.seq
 (.seq
 (.reg false [p (.mov (.v 8)),
 p (.mov (.v 7)),
 p (.bin .add (.r 1) (.r 0)),
 p (.mov (.v 0)),
 p (.cap (.r 0)),
 p (.bin .gtr (.r 2) (.r 0))] [(0,.v 0),(1,.v 1),(2,.v 2),(7,.v 7),(8,.v 8),(31,.r 0)])
 (.cond (.v 31)
 (.seq
 (.reg false [p (.mov (.v 0)),
 p (.mov (.v 1)),
 p (.slc sz (.r 1) none (some (.r 0)) none),
 p (.mov (.v 8)),
 p (.mov (.v 7)),
 p (.bin .add (.r 1) (.r 0)),
 p (.mov (.v 1)),
 p (.bin .sub (.r 1) (.r 0)),
 p (.apz sz bt z (.r 5) (.r 0)),
 p (.mov (.r 0))] [(0,.v 0),(1,.v 1),(2,.v 2),(7,.v 7),(9,.r 0)])
 (.seq
 (.reg false [p (.mov (.v 9)),
 p (.mov (.v 1)),
 p (.slc sz (.r 1) (some (.r 0)) none none),
 p (.mov (.v 2)),
 p (.cpy sz (.r 1) (.r 0))] [(0,.v 0),(1,.v 1),(7,.v 7),(9,.v 9)])
 (.seq
 (.reg true [p (.mov (.v 9)),
 p (.mov (.v 1)),
 p (.mov (.v 7)),
 p (.bin .add (.r 1) (.r 0)),
 p (.slc sz (.r 3) (some (.r 0)) none none),
 p (.mov (.v 0)),
 p (.mov (.v 1)),
 p (.slc sz (.r 1) (some (.r 0)) none none),
 p (.cpy sz (.r 3) (.r 0))] [(9,.v 9)])
 (.seq
 (.reg false [p (.mov (.v 9)),
 p (.mov (.r 0))] [(6,.r 0)])
 .ret))))
 .skip))
 (.seq
 (.reg false [p (.mov (.v 0)),
 p (.mov (.v 8)),
 p (.mov (.v 7)),
 p (.bin .add (.r 1) (.r 0)),
 p (.slc sz (.r 3) none (some (.r 0)) none),
 p (.mov (.r 0))] [(0,.r 0),(1,.v 1),(2,.v 2),(7,.v 7),(8,.v 8)])
 (.seq
 (.seq
 (.reg false [p (.mov (.v 2)),
 p (.mov (.v 0)),
 p (.mov (.v 1)),
 p (.mov (.v 7)),
 p (.bin .add (.r 1) (.r 0)),
 p (.slc sz (.r 3) (some (.r 0)) none none),
 p (.xcl ov [.r 5,.r 0]),
 p (.un .not (.r 0))] [(0,.v 0),(1,.v 1),(2,.v 2),(7,.v 7),(8,.v 8),(68,.r 0)])
 (.cond (.v 68)
 (.seq
 (.reg true [p (.mov (.v 0)),
 p (.mov (.v 1)),
 p (.mov (.v 7)),
 p (.bin .add (.r 1) (.r 0)),
 p (.slc sz (.r 3) (some (.r 0)) none none),
 p (.mov (.v 0)),
 p (.mov (.v 1)),
 p (.slc sz (.r 1) (some (.r 0)) none none),
 p (.cpy sz (.r 3) (.r 0))] [(0,.v 0),(1,.v 1),(2,.v 2)])
 (.seq
 (.reg false [p (.mov (.v 0)),
 p (.mov (.v 1)),
 p (.slc sz (.r 1) (some (.r 0)) none none),
 p (.mov (.v 2)),
 p (.cpy sz (.r 1) (.r 0))] [(0,.v 0)])
 (.seq
 (.reg false [p (.mov (.v 0)),
 p (.mov (.r 0))] [(6,.r 0)])
 .ret)))
 .skip))
 (.seq
 (.reg false [p (.mov (.v 0)),
 p (.mov (.v 8)),
 p (.slc sz (.r 1) (some (.r 0)) none none),
 p (.mov (.v 2)),
 p (.cpy sz (.r 1) (.r 0))] [(0,.v 0),(1,.v 1),(7,.v 7)])
 (.seq
 (.reg false [p (.mov (.v 0)),
 p (.mov (.v 1)),
 p (.slc sz (.r 1) (some (.r 0)) none none),
 p (.mov (.v 7)),
 p (.call true (.k (.fn rot [] [])) [.r 1,.r 0])] [(0,.v 0)])
 (.seq
 (.reg false [p (.mov (.v 0)),
 p (.mov (.r 0))] [(6,.r 0)])
 .ret))))))))))))
theorem put1 {a X:List V} {v:V} {n:Nat} (h:a.length≤n):List.take a.length (a++X)++List.take (n+1 - a.length) [v]++List.drop (a.length+min 1 (n+1 - a.length)) (a++X)=a++v::X.drop 1:=by
  have e:min 1 (n+1 - a.length)=1:=by omega
  rw [e,List.take_left,List.take_of_length_le (l:=[v]) (by simp; omega)]
  simp [List.drop_append]
theorem put2 {a B X:List V} {v:V} {n:Nat} (h:n=a.length+B.length) (hX:X.length=B.length) :
    List.take (a.length+1) (a++v::X)++List.take (n+1 - (a.length+1)) B++List.drop (a.length+1+min B.length (n+1 - (a.length+1))) (a++v::X)=a++v::B:=by
  have e:n+1 - (a.length+1)=B.length:=by omega
  rw [e,Nat.min_self,List.take_length]
  have e2:List.take (a.length+1) (a++v::X)=a++[v]:=by
    rw [List.take_append,List.take_of_length_le (by omega),show a.length+1 - a.length=1 by omega]; rfl
  have e3:List.drop (a.length+1+B.length) (a++v::X)=[]:=by rw [List.drop_eq_nil_iff]; simp; omega
  rw [e2,e3]; simp
theorem put3 {a B J:List V} {n:Nat} (h:n=a.length+B.length) (hB:1≤B.length) (hJ:1≤J.length) :
    List.take (a.length+1) (a++(B++J))++List.take (n+1 - (a.length+1)) (List.take (n+1 - a.length) (List.drop a.length (a++(B++J))))++List.drop (a.length+1+min (List.take (n+1 - a.length) (List.drop a.length (a++(B++J)))).length (n+1 - (a.length+1))) (a++(B++J))=a++(B.take 1++B++J.drop 1):=by
  have e1:n+1 - (a.length+1)=B.length:=by omega
  have e2:n+1 - a.length=B.length+1:=by omega
  rw [List.drop_left,e1,e2]
  have e3:List.take B.length (List.take (B.length+1) (B++J))=B:=by rw [List.take_take,Nat.min_eq_left (by omega),List.take_left]
  have e4:(List.take (B.length+1) (B++J)).length=B.length+1:=by simp; omega
  have e5:List.take (a.length+1) (a++(B++J))=a++B.take 1:=by
    rw [List.take_append,List.take_of_length_le (by omega)]
    congr 1
    rw [show a.length+1 - a.length=1 by omega,List.take_append_of_le_length hB]
  have e6:List.drop (a.length+1+B.length) (a++(B++J))=J.drop 1:=by
    rw [show a.length+1+B.length=a.length+(B.length+1) by omega,← List.drop_drop,List.drop_left,← List.drop_drop,List.drop_left]
  rw [e3,e4,e5,Nat.min_eq_right (by omega),e6]
  simp
theorem d3o {L:Src→Option V} {H:Hp} (sz bt:Nat) (z:V) (x n:Src):opI L H (.apz sz bt z x n)=(match L x,L n with | some x,some n => apzO H sz bt z x n | _,_ => none):=rfl
section
variable {P:Program}
theorem b7m {f n sz bt:Nat} {z:V} {ov rot:Nat} (hen:EnA P f n (insC sz bt z ov rot) [.t 6]) (hn:3≤n) {v:V} {H:Hp} (hv:v.size=sz) (hc:v.closed=true) (hb:bt≤140737488355328) :
    ACall P f [.fsl .full sz [],.int .i64 0,.fsl .full sz [v]] H [] (.sl H.n 0 1) [(H.n,some (.arr sz [v]))] 1:=by
  refine hen (by simpa using hn) (by simp [lowL,V.low,V.low_closed _ hc]) (by simp) (by simp) ?_
  have n1:((1:Nat):Int)=1:=rfl
  have n0:((0:Nat):Int)=0:=rfl
  simp (maxSteps:=1000000) (disch:=omega) only [rs,gD,Nat.reduceBEq,Nat.reduceEqDiff,Nat.reduceAdd,Int.reduceEq,Int.reduceLT,Int.reduceLE,Int.reduceToNat,reduceIte,reduceCtorEq,insC,appO,n1,n0,show ¬ (1:Int)=0 by omega,Int.le_refl]
  exact ⟨by omega,a1v (l:=[.sl H.n 0 1]) rfl (.inl rfl) (by simp) (fun id => .inr rfl)⟩
theorem d5o {f n sz bt:Nat} {z:V} {ov rot:Nat} (hen:EnA P f n (insC sz bt z ov rot) [.t 6]) (hn:3≤n) {v:V} {H:Hp} {id:Nat} {l:List V} (hl:H.m id=some (.arr sz l)) (hid:id < H.n) (hcl:a0b l=true) (hv:v.size=sz) (hc:v.closed=true) (hb:(l.length+1)*bt≤140737488355328) :
    ACall P f [.sl id 0 l.length,.int .i64 (l.length:Int),.fsl .full sz [v]] H [id] (.sl H.n 0 (l.length+1)) [(id,none),(H.n,some (.arr sz (l++[v])))] 1:=by
  refine hen (by simpa using hn) (by simp [lowL,V.low,V.low_closed _ hc,hid]) (by simp [hid,hl,Ob.low,a1g _ hcl]) (by simp) ?_
  have n1:((1:Nat):Int)=1:=rfl
  have n0:((0:Nat):Int)=0:=rfl
  have ho:only [id] H.m id=some (.arr sz l):=by simp [only,hl]
  simp (maxSteps:=1000000) (disch:=omega) only [rs,gD,Nat.reduceBEq,Nat.reduceEqDiff,Nat.reduceAdd,Int.reduceEq,Int.reduceLT,Int.reduceLE,Int.reduceToNat,reduceIte,reduceCtorEq,insC,appO,ho,n1,n0,show ¬ (1:Int)=0 by omega,Int.le_refl]
  refine ⟨⟨Nat.le_refl _,hb⟩,a1v (l:=[.sl H.n 0 (l.length+1)]) rfl (.inl rfl) (by simp) (fun id => .inr ?_)⟩
  rw [List.take_length]; rfl
theorem d5g {f n sz bt:Nat} {z:V} {ov rot:Nat} (hen:EnA P f n (insC sz bt z ov rot) [.t 6]) (hn:3≤n) (hov:OvOK P ov sz) (h2:2≤sz) (hz:z.size=sz) (hze:z.isEl=true) {v:V} {H:Hp} {id i:Nat} {l:List V} (hl:H.m id=some (.arr sz l)) (hid:id < H.n) (hcl:a0b l=true)
    (hls:∀ u∈l,u.size=sz) (hv:v.size=sz) (hve:v.isEl=true) (hc:v.closed=true) (hb:(l.length+1)*bt≤140737488355328) (hi:i < l.length) (hbd:b1j P f) (hbt:1≤bt) :
    ACall P f [.sl id 0 l.length,.int .i64 (i:Int),.fsl .full sz [v]] H [id] (.sl H.n 0 (l.length+1)) [(id,none),(H.n,some (.arr sz (l.take i++v::l.drop i)))] 1:=by
  have n1:((1:Nat):Int)=1:=rfl
  have n0:((0:Nat):Int)=0:=rfl
  have hlb:l.length+1≤140737488355328:=Nat.le_trans (by simpa using Nat.mul_le_mul_left (l.length+1) hbt) hb
  refine b5p h2 (by omega) hl rfl (by simp; omega) ?_ hid hbd fun c hcn => ?_
  · intro u hu
    rcases List.mem_append.1 hu with hu | hu
    · exact hls u (List.mem_of_mem_take hu)
    · rcases List.mem_cons.1 hu with rfl | hu
      · exact hv
      · exact hls u (List.mem_of_mem_drop hu)
  have hm:(upd H.m id (some (.arr sz (l++junk sz (c - l.length))))) id=some (.arr sz (l++junk sz (c - l.length))):=by simp [upd]
  have hlow:(Ob.arr sz (l++junk sz (c - l.length))).low H.n=true:=by
    have:a0b (l++junk sz (c - l.length))=true:=by
      rw [a3w]
      intro u hu
      rcases List.mem_append.1 hu with hu | hu
      · exact a3w.1 hcl u hu
      · rw [List.mem_replicate] at hu; rw [hu.2]
        simp only [jkE,V.closed]; rw [a3w]; intro w hw; rw [List.mem_replicate] at hw; rw [hw.2]; rfl
    simp [Ob.low,a1g _ this]
  have ho:only [id] (upd H.m id (some (.arr sz (l++junk sz (c - l.length))))) id=some (.arr sz (l++junk sz (c - l.length))):=by simp [only,upd]
  have hlj:(l++junk sz (c - l.length)).length=c:=by simp; omega
  have hfp:∀ j∈[id],j < H.n∧∀ o,(upd H.m id (some (.arr sz (l++junk sz (c - l.length))))) j=some o→o.low H.n=true:=by
    intro j hj
    obtain rfl:j=id:=by simpa using hj
    exact ⟨hid,fun o h => by rw [hm] at h; simp only [Option.some.injEq] at h; subst h; exact hlow⟩
  have hnid:¬ id=H.n:=by omega
  have hnid2:¬ H.n=id:=by omega
  by_cases hcc:c=l.length
  · left
    subst hcc
    refine hen (by simpa using hn) (by simp [lowL,V.low,V.low_closed _ hc,hid]) hfp (by simp) ?_
    have w1:IntKind.wrap .i64 ((l.length:Int)+1)=(l.length:Int)+1:=a7p (by omega) (by omega)
    have e1:(i:Int)≤(l.length:Int):=by omega
    have e2:(l.length:Int) < (l.length:Int)+1:=by omega
    have e3:((l.length:Int)+1 - (i:Int)).toNat=l.length+1 - i:=by omega
    have e4:i+(l.length+1 - i)=l.length+1:=by omega
    have e5:(i+(l.length - i)≤l.length)=True:=eq_true (by omega)
    have e6:((i:Int)+1).toNat=i+1:=by omega
    have e7:List.take (l.length - i) (List.drop i l)=l.drop i:=by rw [List.take_of_length_le]; simp
    have hj:l++junk sz (l.length - l.length)=l:=by rw [Nat.sub_self]; simp
    rw [hj] at ho ⊢
    simp (maxSteps:=1000000) (disch:=omega) only [rs,gD,Nat.reduceBEq,Nat.reduceEqDiff,Nat.reduceAdd,Int.reduceEq,Int.reduceLT,Int.reduceLE,Int.reduceToNat,reduceIte,reduceCtorEq,insC,ho,n1,n0,show ¬ (1:Int)=0 by omega,show ¬ (i:Int)=(l.length:Int) by omega,Int.le_refl,w1,e1,e2,d3o,apzO,Nat.sub_zero,e3,e4,e5,e6,e7]
    have q1:List.take i (List.take i l++List.replicate (l.length+1 - i) z)++List.take (l.length+1 - i) [v]++List.drop (i+min 1 (l.length+1 - i)) (List.take i l++List.replicate (l.length+1 - i) z)=l.take i++v::List.replicate (l.length - i) z:=by
      have:=put1 (a:=l.take i) (X:=List.replicate (l.length+1 - i) z) (v:=v) (n:=l.length) (by simp; omega)
      have e:(l.take i).length=i:=by simp; omega
      rw [e] at this
      rw [this,List.drop_replicate]; congr 3; omega
    have q2:List.take (i+1) (l.take i++v::List.replicate (l.length - i) z)++List.take (l.length+1 - (i+1)) (List.drop i l)++List.drop (i+1+min (List.drop i l).length (l.length+1 - (i+1))) (l.take i++v::List.replicate (l.length - i) z)=l.take i++v::l.drop i:=by
      have:=put2 (a:=l.take i) (B:=l.drop i) (X:=List.replicate (l.length - i) z) (v:=v) (n:=l.length) (by simp; omega) (by simp)
      have e:(l.take i).length=i:=by simp; omega
      rw [e] at this
      exact this
    rw [q1,q2]
    refine ⟨⟨by omega,by omega,by omega,hb,hz,hze⟩,by omega,by simp; omega,⟨by omega,by omega⟩,by simp; omega,a1v (l:=[.sl H.n 0 (l.length+1)]) rfl (.inl rfl) (by simp) (fun j => ?_)⟩
    simp only [appd,upd]
    by_cases h1:j=H.n
    · right; rw [if_pos h1,if_pos h1]
    · rw [if_neg h1,if_neg h1,if_neg h1,if_neg h1]
      by_cases h2:j=id
      · left; rw [if_pos h2]
      · right; rw [if_neg h2]
  · right
    have hnc:l.length < c:=by omega
    refine ⟨hnc, ?_⟩
    refine hen (by simpa using hn) (by simp [lowL,V.low,V.low_closed _ hc,hid]) hfp (by simp) ?_
    have w1:IntKind.wrap .i64 ((l.length:Int)+1)=(l.length:Int)+1:=a7p (by omega) (by omega)
    have e1:(i:Int)≤(l.length:Int):=by omega
    have e2:¬ (c:Int) < (l.length:Int)+1:=by omega
    have e4:((l.length:Int)+1).toNat=l.length+1:=by omega
    have e6:((i:Int)+1).toNat=i+1:=by omega
    obtain ⟨O,hO⟩:∃ O,O=l++junk sz (c - l.length):=⟨_,rfl⟩
    rw [← hO] at ho hlj ⊢
    have e7:(i+(l.length+1 - i)≤O.length)=True:=eq_true (by omega)
    simp (maxSteps:=1000000) (disch:=omega) only [rs,gD,Nat.reduceBEq,Nat.reduceEqDiff,Nat.reduceAdd,Int.reduceEq,Int.reduceLT,Int.reduceLE,Int.reduceToNat,reduceIte,reduceCtorEq,insC,ho,n1,n0,show ¬ (1:Int)=0 by omega,show ¬ (i:Int)=(l.length:Int) by omega,Int.le_refl,w1,e1,e2,Nat.sub_zero,e4,e6]
    refine ⟨by omega,⟨by omega,by omega,by omega⟩,⟨by omega,by omega,by omega⟩,⟨_,_,hov ho, ?_⟩⟩
    simp (maxSteps:=1000000) (disch:=omega) only [rs,gD,Nat.reduceBEq,Nat.reduceEqDiff,Nat.reduceAdd,Int.reduceEq,Int.reduceLT,Int.reduceLE,Int.reduceToNat,reduceIte,reduceCtorEq,ho,n1,n0,Int.le_refl,w1,e1,e2,Nat.sub_zero,e4,e6,e7]
    have ea:(l.take i).length=i:=by simp; omega
    have hOa:O=l.take i++(l.drop i++junk sz (c - l.length)):=by rw [hO,← List.append_assoc,List.take_append_drop]
    have q1:=put3 (a:=l.take i) (B:=l.drop i) (J:=junk sz (c - l.length)) (n:=l.length) (by simp; omega) (by simp; omega) (by simp; omega)
    rw [ea,← hOa] at q1
    have q2:=put1 (a:=l.take i) (X:=List.take 1 (l.drop i)++l.drop i++List.drop 1 (junk sz (c - l.length))) (v:=v) (n:=l.length) (by simp; omega)
    rw [ea] at q2
    have q3:List.drop 1 (List.take 1 (l.drop i)++l.drop i++List.drop 1 (junk sz (c - l.length)))=l.drop i++junk sz (c - (l.length+1)):=by
      obtain ⟨b0,B,hB⟩:∃ b B,l.drop i=b::B:=by
        cases h:l.drop i with
        | nil => rw [List.drop_eq_nil_iff] at h; omega
        | cons b B => exact ⟨b,B,rfl⟩
      rw [hB,show c - (l.length+1)=c - l.length - 1 by omega]
      simp [List.drop_replicate]
    rw [q3] at q2
    rw [q1,q2]
    refine ⟨⟨by omega,by omega,by omega⟩,⟨by omega,by omega⟩,by omega,⟨by omega,by omega⟩,by simp; omega,a1v (l:=[.slc id 0 (l.length+1) c]) rfl (.inl rfl) (by simp) (fun j => .inr ?_)⟩
    simp only [appd,upd]
    by_cases h2:j=id
    · rw [if_pos h2,if_pos h2]; simp
    · rw [if_neg h2,if_neg h2,if_neg h2]
end
end
def c148:C :=
  (.seq
 (.reg false [p (.mov (.k (.fsl .nil 2 [])))] [(0,.v 0)])
 (.seq
 (.seq
 (.reg false [p (.mov (.v 0)),
 p (.eqn false .s (.r 0))] [(0,.v 0),(4,.r 0)])
 (.cond (.v 4)
 (.seq
 (.reg false [p (.mov (.k (.fsl .nil 2 [])))] [(2,.r 0)])
 .ret)
 .skip))
 (.seq
 (.reg false [p (.bsl 2 []),
 p (.mov (.v 0)),
 p (.app 2 40 (.r 1) (.r 0)),
 p (.mov (.r 0))] [(2,.r 0)])
 .ret)))
def r148:List RV:=[.t 2]
theorem chk148:Chk Tryz.prog Tryz.f148 c148 r148:=⟨_,rfl,by kernel_rfl,by kernel_rfl⟩
theorem ena148:EnA Tryz.prog 148 8 c148 r148:=a2h (by kernel_rfl) Tryz.func148 (by kernel_rfl) chk148
def c152:C :=
  (.seq
 (.reg false [p (.mov (.k (.fsl .nil 5 [])))] [(0,.v 0)])
 (.seq
 (.seq
 (.reg false [p (.mov (.v 0)),
 p (.eqn false .s (.r 0))] [(0,.v 0),(4,.r 0)])
 (.cond (.v 4)
 (.seq
 (.reg false [p (.mov (.k (.fsl .nil 5 [])))] [(2,.r 0)])
 .ret)
 .skip))
 (.seq
 (.reg false [p (.bsl 5 []),
 p (.mov (.v 0)),
 p (.app 5 88 (.r 1) (.r 0)),
 p (.mov (.r 0))] [(2,.r 0)])
 .ret)))
def r152:List RV:=[.t 2]
theorem chk152:Chk Tryz.prog Tryz.f152 c152 r152:=⟨_,rfl,by kernel_rfl,by kernel_rfl⟩
theorem ena152:EnA Tryz.prog 152 8 c152 r152:=a2h (by kernel_rfl) Tryz.func152 (by kernel_rfl) chk152
def c147:C :=
  (.seq
 (.reg false [p (.mov (.k (.fsl .nil 2 [])))] [(0,.v 0),(1,.v 1),(2,.v 2)])
 (.seq
 (.reg false [p (.mov (.v 0)),
 p (.mov (.v 1)),
 p (.slc 2 (.r 1) (some (.r 0)) none none)] [(0,.v 0),(1,.v 1),(2,.v 2)])
 (.seq
 (.reg false [p (.mov (.v 2)),
 p (.len false (.r 0)),
 p (.mov (.r 0))] [(0,.v 0),(1,.v 1),(2,.v 2),(7,.r 0)])
 (.seq
 (.seq
 (.reg false [p (.mov (.v 7)),
 p (.bin .eql (.r 0) (.k (.int .i64 0)))] [(0,.v 0),(1,.v 1),(2,.v 2),(7,.v 7),(16,.r 0)])
 (.cond (.v 16)
 (.seq
 (.reg false [p (.mov (.v 0)),
 p (.mov (.r 0))] [(6,.r 0)])
 .ret)
 .skip))
 (.seq
 (.reg false [p (.mov (.v 0)),
 p (.len false (.r 0)),
 p (.mov (.r 0))] [(0,.v 0),(1,.v 1),(2,.v 2),(7,.v 7),(8,.r 0)])
 (.seq
 (.seq
 (.reg false [p (.mov (.v 1)),
 p (.mov (.v 8)),
 p (.bin .eql (.r 1) (.r 0))] [(0,.v 0),(1,.v 1),(2,.v 2),(7,.v 7),(8,.v 8),(22,.r 0)])
 (.cond (.v 22)
 (.seq
 (.reg false [p (.mov (.v 0)),
 p (.mov (.v 2)),
 p (.app 2 40 (.r 1) (.r 0)),
 p (.mov (.r 0))] [(6,.r 0)])
 .ret)
 .skip))
 (.seq
 (.seq
 (.reg false [p (.mov (.v 8)),
 p (.mov (.v 7)),
 p (.bin .add (.r 1) (.r 0)),
 p (.mov (.v 0)),
 p (.cap (.r 0)),
 p (.bin .gtr (.r 2) (.r 0))] [(0,.v 0),(1,.v 1),(2,.v 2),(7,.v 7),(8,.v 8),(31,.r 0)])
 (.cond (.v 31)
 (.seq
 (.reg false [p (.mov (.v 0)),
 p (.mov (.v 1)),
 p (.slc 2 (.r 1) none (some (.r 0)) none),
 p (.mov (.v 8)),
 p (.mov (.v 7)),
 p (.bin .add (.r 1) (.r 0)),
 p (.mov (.v 1)),
 p (.bin .sub (.r 1) (.r 0)),
 p (.apz 2 40 (.agg [.str [],.fsl .nil 4 []]) (.r 5) (.r 0)),
 p (.mov (.r 0))] [(0,.v 0),(1,.v 1),(2,.v 2),(7,.v 7),(9,.r 0)])
 (.seq
 (.reg false [p (.mov (.v 9)),
 p (.mov (.v 1)),
 p (.slc 2 (.r 1) (some (.r 0)) none none),
 p (.mov (.v 2)),
 p (.cpy 2 (.r 1) (.r 0))] [(0,.v 0),(1,.v 1),(7,.v 7),(9,.v 9)])
 (.seq
 (.reg true [p (.mov (.v 9)),
 p (.mov (.v 1)),
 p (.mov (.v 7)),
 p (.bin .add (.r 1) (.r 0)),
 p (.slc 2 (.r 3) (some (.r 0)) none none),
 p (.mov (.v 0)),
 p (.mov (.v 1)),
 p (.slc 2 (.r 1) (some (.r 0)) none none),
 p (.cpy 2 (.r 3) (.r 0))] [(9,.v 9)])
 (.seq
 (.reg false [p (.mov (.v 9)),
 p (.mov (.r 0))] [(6,.r 0)])
 .ret))))
 .skip))
 (.seq
 (.reg false [p (.mov (.v 0)),
 p (.mov (.v 8)),
 p (.mov (.v 7)),
 p (.bin .add (.r 1) (.r 0)),
 p (.slc 2 (.r 3) none (some (.r 0)) none),
 p (.mov (.r 0))] [(0,.r 0),(1,.v 1),(2,.v 2),(7,.v 7),(8,.v 8)])
 (.seq
 (.seq
 (.reg false [p (.mov (.v 2)),
 p (.mov (.v 0)),
 p (.mov (.v 1)),
 p (.mov (.v 7)),
 p (.bin .add (.r 1) (.r 0)),
 p (.slc 2 (.r 3) (some (.r 0)) none none),
 p (.xcl 196 [.r 5,.r 0]),
 p (.un .not (.r 0))] [(0,.v 0),(1,.v 1),(2,.v 2),(7,.v 7),(8,.v 8),(68,.r 0)])
 (.cond (.v 68)
 (.seq
 (.reg true [p (.mov (.v 0)),
 p (.mov (.v 1)),
 p (.mov (.v 7)),
 p (.bin .add (.r 1) (.r 0)),
 p (.slc 2 (.r 3) (some (.r 0)) none none),
 p (.mov (.v 0)),
 p (.mov (.v 1)),
 p (.slc 2 (.r 1) (some (.r 0)) none none),
 p (.cpy 2 (.r 3) (.r 0))] [(0,.v 0),(1,.v 1),(2,.v 2)])
 (.seq
 (.reg false [p (.mov (.v 0)),
 p (.mov (.v 1)),
 p (.slc 2 (.r 1) (some (.r 0)) none none),
 p (.mov (.v 2)),
 p (.cpy 2 (.r 1) (.r 0))] [(0,.v 0)])
 (.seq
 (.reg false [p (.mov (.v 0)),
 p (.mov (.r 0))] [(6,.r 0)])
 .ret)))
 .skip))
 (.seq
 (.reg false [p (.mov (.v 0)),
 p (.mov (.v 8)),
 p (.slc 2 (.r 1) (some (.r 0)) none none),
 p (.mov (.v 2)),
 p (.cpy 2 (.r 1) (.r 0))] [(0,.v 0),(1,.v 1),(7,.v 7)])
 (.seq
 (.reg false [p (.mov (.v 0)),
 p (.mov (.v 1)),
 p (.slc 2 (.r 1) (some (.r 0)) none none),
 p (.mov (.v 7)),
 p (.call true (.k (.fn 197 [] [])) [.r 1,.r 0])] [(0,.v 0)])
 (.seq
 (.reg false [p (.mov (.v 0)),
 p (.mov (.r 0))] [(6,.r 0)])
 .ret))))))))))))
def r147:List RV:=[.t 6]
theorem chk147:Chk Tryz.prog Tryz.f147 c147 r147:=⟨_,rfl,by kernel_rfl,by kernel_rfl⟩
theorem ena147:EnA Tryz.prog 147 95 c147 r147:=a2h (by kernel_rfl) Tryz.func147 (by kernel_rfl) chk147
def c151:C :=
  (.seq
 (.reg false [p (.mov (.k (.fsl .nil 5 [])))] [(0,.v 0),(1,.v 1),(2,.v 2)])
 (.seq
 (.reg false [p (.mov (.v 0)),
 p (.mov (.v 1)),
 p (.slc 5 (.r 1) (some (.r 0)) none none)] [(0,.v 0),(1,.v 1),(2,.v 2)])
 (.seq
 (.reg false [p (.mov (.v 2)),
 p (.len false (.r 0)),
 p (.mov (.r 0))] [(0,.v 0),(1,.v 1),(2,.v 2),(7,.r 0)])
 (.seq
 (.seq
 (.reg false [p (.mov (.v 7)),
 p (.bin .eql (.r 0) (.k (.int .i64 0)))] [(0,.v 0),(1,.v 1),(2,.v 2),(7,.v 7),(16,.r 0)])
 (.cond (.v 16)
 (.seq
 (.reg false [p (.mov (.v 0)),
 p (.mov (.r 0))] [(6,.r 0)])
 .ret)
 .skip))
 (.seq
 (.reg false [p (.mov (.v 0)),
 p (.len false (.r 0)),
 p (.mov (.r 0))] [(0,.v 0),(1,.v 1),(2,.v 2),(7,.v 7),(8,.r 0)])
 (.seq
 (.seq
 (.reg false [p (.mov (.v 1)),
 p (.mov (.v 8)),
 p (.bin .eql (.r 1) (.r 0))] [(0,.v 0),(1,.v 1),(2,.v 2),(7,.v 7),(8,.v 8),(22,.r 0)])
 (.cond (.v 22)
 (.seq
 (.reg false [p (.mov (.v 0)),
 p (.mov (.v 2)),
 p (.app 5 88 (.r 1) (.r 0)),
 p (.mov (.r 0))] [(6,.r 0)])
 .ret)
 .skip))
 (.seq
 (.seq
 (.reg false [p (.mov (.v 8)),
 p (.mov (.v 7)),
 p (.bin .add (.r 1) (.r 0)),
 p (.mov (.v 0)),
 p (.cap (.r 0)),
 p (.bin .gtr (.r 2) (.r 0))] [(0,.v 0),(1,.v 1),(2,.v 2),(7,.v 7),(8,.v 8),(31,.r 0)])
 (.cond (.v 31)
 (.seq
 (.reg false [p (.mov (.v 0)),
 p (.mov (.v 1)),
 p (.slc 5 (.r 1) none (some (.r 0)) none),
 p (.mov (.v 8)),
 p (.mov (.v 7)),
 p (.bin .add (.r 1) (.r 0)),
 p (.mov (.v 1)),
 p (.bin .sub (.r 1) (.r 0)),
 p (.apz 5 88 (.agg [.str [],.str [],.fsl .nil 4 [],.int .i64 0,.fsl .nil 5 []]) (.r 5) (.r 0)),
 p (.mov (.r 0))] [(0,.v 0),(1,.v 1),(2,.v 2),(7,.v 7),(9,.r 0)])
 (.seq
 (.reg false [p (.mov (.v 9)),
 p (.mov (.v 1)),
 p (.slc 5 (.r 1) (some (.r 0)) none none),
 p (.mov (.v 2)),
 p (.cpy 5 (.r 1) (.r 0))] [(0,.v 0),(1,.v 1),(7,.v 7),(9,.v 9)])
 (.seq
 (.reg true [p (.mov (.v 9)),
 p (.mov (.v 1)),
 p (.mov (.v 7)),
 p (.bin .add (.r 1) (.r 0)),
 p (.slc 5 (.r 3) (some (.r 0)) none none),
 p (.mov (.v 0)),
 p (.mov (.v 1)),
 p (.slc 5 (.r 1) (some (.r 0)) none none),
 p (.cpy 5 (.r 3) (.r 0))] [(9,.v 9)])
 (.seq
 (.reg false [p (.mov (.v 9)),
 p (.mov (.r 0))] [(6,.r 0)])
 .ret))))
 .skip))
 (.seq
 (.reg false [p (.mov (.v 0)),
 p (.mov (.v 8)),
 p (.mov (.v 7)),
 p (.bin .add (.r 1) (.r 0)),
 p (.slc 5 (.r 3) none (some (.r 0)) none),
 p (.mov (.r 0))] [(0,.r 0),(1,.v 1),(2,.v 2),(7,.v 7),(8,.v 8)])
 (.seq
 (.seq
 (.reg false [p (.mov (.v 2)),
 p (.mov (.v 0)),
 p (.mov (.v 1)),
 p (.mov (.v 7)),
 p (.bin .add (.r 1) (.r 0)),
 p (.slc 5 (.r 3) (some (.r 0)) none none),
 p (.xcl 201 [.r 5,.r 0]),
 p (.un .not (.r 0))] [(0,.v 0),(1,.v 1),(2,.v 2),(7,.v 7),(8,.v 8),(68,.r 0)])
 (.cond (.v 68)
 (.seq
 (.reg true [p (.mov (.v 0)),
 p (.mov (.v 1)),
 p (.mov (.v 7)),
 p (.bin .add (.r 1) (.r 0)),
 p (.slc 5 (.r 3) (some (.r 0)) none none),
 p (.mov (.v 0)),
 p (.mov (.v 1)),
 p (.slc 5 (.r 1) (some (.r 0)) none none),
 p (.cpy 5 (.r 3) (.r 0))] [(0,.v 0),(1,.v 1),(2,.v 2)])
 (.seq
 (.reg false [p (.mov (.v 0)),
 p (.mov (.v 1)),
 p (.slc 5 (.r 1) (some (.r 0)) none none),
 p (.mov (.v 2)),
 p (.cpy 5 (.r 1) (.r 0))] [(0,.v 0)])
 (.seq
 (.reg false [p (.mov (.v 0)),
 p (.mov (.r 0))] [(6,.r 0)])
 .ret)))
 .skip))
 (.seq
 (.reg false [p (.mov (.v 0)),
 p (.mov (.v 8)),
 p (.slc 5 (.r 1) (some (.r 0)) none none),
 p (.mov (.v 2)),
 p (.cpy 5 (.r 1) (.r 0))] [(0,.v 0),(1,.v 1),(7,.v 7)])
 (.seq
 (.reg false [p (.mov (.v 0)),
 p (.mov (.v 1)),
 p (.slc 5 (.r 1) (some (.r 0)) none none),
 p (.mov (.v 7)),
 p (.call true (.k (.fn 202 [] [])) [.r 1,.r 0])] [(0,.v 0)])
 (.seq
 (.reg false [p (.mov (.v 0)),
 p (.mov (.r 0))] [(6,.r 0)])
 .ret))))))))))))
def r151:List RV:=[.t 6]
theorem chk151:Chk Tryz.prog Tryz.f151 c151 r151:=⟨_,rfl,by kernel_rfl,by kernel_rfl⟩
theorem ena151:EnA Tryz.prog 151 95 c151 r151:=a2h (by kernel_rfl) Tryz.func151 (by kernel_rfl) chk151
def c207:C :=
  (.seq
 (.reg false [p (.mov (.k (.int .i64 0)))] [(0,.v 0),(1,.v 1)])
 (.seq
 (.seq
 (.reg false [p (.mov (.v 0)),
 p (.len false (.r 0)),
 p (.mov (.k (.int .i64 0)))] [(0,.v 0),(1,.v 1),(7,.r 1),(8,.r 0)])
 (.block 0
 (.loop
 (.seq
 (.reg false [p (.bin .lss (.v 8) (.v 7))] [(0,.v 0),(1,.v 1),(7,.v 7),(8,.v 8),(9,.r 0)])
 (.seq
 (.cond (.v 9)
 .skip
 (.exit 0))
 (.seq
 (.block 1
 (.seq
 (.reg false [p (.mov (.v 8)),
 p (.mov (.r 0))] [(0,.v 0),(1,.v 1),(5,.r 0),(7,.v 7),(8,.v 8)])
 (.seq
 (.reg false [p (.mov (.v 1)),
 p (.mov (.v 0)),
 p (.mov (.v 5)),
 p (.iad 5 (.r 1) (.r 0)),
 p (.load (some 5) (.r 0)),
 p (.call false (.r 4) [.r 0])] [(0,.v 0),(1,.v 1),(5,.v 5),(7,.v 7),(8,.v 8),(16,.r 0)])
 (.cond (.v 16)
 (.seq
 (.reg false [p (.mov (.v 5)),
 p (.mov (.r 0))] [(4,.r 0)])
 .ret)
 .skip))))
 (.reg false [p (.bin .add (.v 8) (.k (.int .i64 1))),
 p (.mov (.r 0))] [(0,.v 0),(1,.v 1),(7,.v 7),(8,.r 0)])))))))
 (.frz
 (.seq
 (.reg false [p (.mov (.k (.int .i64 (-1))))] [(4,.r 0)])
 .ret))))
def r207:List RV:=[.t 4]
theorem chk207:Chk Tryz.prog Tryz.f207 c207 r207:=⟨_,rfl,by kernel_rfl,by kernel_rfl⟩
theorem ena207:EnA Tryz.prog 207 19 c207 r207:=a2h (by kernel_rfl) Tryz.func207 (by kernel_rfl) chk207
def c154:C :=
  (.seq
 (.reg false [p (.box 5 (.v 2))] [(0,.v 0),(1,.v 1),(5,.r 0)])
 (.seq
 (.reg false [p (.mov (.v 0)),
 p (.mov (.v 0)),
 p (.nck (.r 0)),
 p (.fad 0 (.r 0)),
 p (.fad 3 (.r 0)),
 p (.load (none) (.r 0)),
 p (.call false (.k (.fn 152 [] [])) [.r 0]),
 p (.nck (.r 6)),
 p (.fad 0 (.r 0)),
 p (.fad 3 (.r 0)),
 p (.store (none) (.r 0) (.r 3))] [(0,.v 0),(1,.v 1),(5,.v 5)])
 (.reg true [p (.mov (.v 0)),
 p (.nck (.r 0)),
 p (.fad 0 (.r 0)),
 p (.fad 3 (.r 0)),
 p (.load (none) (.r 0)),
 p (.mov (.v 1)),
 p (.load (some 5) (.v 5)),
 p (.iad 5 (.r 2) (.r 1)),
 p (.store (some 5) (.r 0) (.r 1))] [])))
def r154:List RV:=[]
theorem chk154:Chk Tryz.prog Tryz.f154 c154 r154:=⟨_,rfl,by kernel_rfl,by kernel_rfl⟩
theorem ena154:EnA Tryz.prog 154 24 c154 r154:=a2h (by kernel_rfl) Tryz.func154 (by kernel_rfl) chk154
def c37:C :=
  (.seq
 (.reg false [p (.alloc 6 (.agg [.int .i64 0,.str [],.int .i64 0,.int .i64 0,.int .i64 0,.fsl .nil 5 []]))] [(0,.v 0),(2,.r 0)])
 (.seq
 (.reg false [p (.mov (.v 0)),
 p (.build [.int .i64 0,.str [],.int .i64 0,.int .i64 0,.int .i64 0,.fsl .nil 5 []] [(0,1,.r 0)]),
 p (.store (some 6) (.v 2) (.r 0))] [(2,.v 2)])
 .ret))
def r37:List RV:=[.c 2 (some 6)]
theorem en37:EnP Tryz.prog 37 5 c37 r37:=a0x (by kernel_rfl) Tryz.func37 (by kernel_rfl) ⟨_,rfl,by kernel_rfl,by kernel_rfl⟩
def c91:C :=
  (.seq
 (.reg false [p (.alloc 6 (.agg [.int .i64 0,.str [],.int .i64 0,.int .i64 0,.int .i64 0,.fsl .nil 5 []]))] [(0,.v 0),(2,.r 0)])
 (.seq
 (.seq
 (.reg false [p (.mov (.v 0)),
 p (.nck (.r 0)),
 p (.fad 4 (.r 0)),
 p (.fad 6 (.r 0)),
 p (.load (some 2) (.r 0)),
 p (.call true (.k (.fn 54 [] [])) [.r 0]),
 p (.mov (.r 0))] [(0,.v 0),(2,.v 2),(3,.r 0)])
 (.seq
 (.reg false [p (.mov (.v 3)),
 p (.bin .neq (.r 0) (.k (.int .i64 0)))] [(0,.v 0),(2,.v 2),(3,.v 3),(13,.r 0)])
 (.cond (.v 13)
 (.seq
 (.reg false [p (.mov (.v 3)),
 p (.call true (.k (.fn 37 [] [])) [.r 0]),
 p (.store (some 6) (.v 2) (.r 0))] [(2,.v 2)])
 (.frz .ret))
 .skip)))
 (.seq
 (.reg true [p (.mov (.v 0)),
 p (.nck (.r 0)),
 p (.fad 0 (.r 0)),
 p (.load (some 4) (.r 0)),
 p (.call true (.k (.fn 48 [] [])) [.r 0]),
 p (.mov (.v 0)),
 p (.nck (.r 0)),
 p (.fad 4 (.r 0)),
 p (.fad 6 (.r 0)),
 p (.fad 0 (.r 0)),
 p (.load (none) (.r 0)),
 p (.call true (.k (.fn 55 [] [])) [.r 6,.r 0]),
 p (.mov (.r 0)),
 p (.ext (.r 0) 0),
 p (.ext (.r 1) 1),
 p (.mov (.r 1)),
 p (.mov (.r 1))] [(0,.v 0),(2,.v 2),(4,.r 1),(5,.r 0)])
 (.seq
 (.block 0
 (.seq
 (.reg true [p (.mov (.v 5)),
 p (.mov (.r 0)),
 ⟨.mov (.v 0),some (0,true),[]⟩,
 ⟨.nck (.r 0),some (1,true),[]⟩,
 ⟨.fad 0 (.r 0),some (2,true),[]⟩,
 ⟨.fad 2 (.r 0),some (3,true),[]⟩,
 ⟨.load (none) (.r 0),some (4,true),[]⟩,
 ⟨.mov (.v 4),some (5,true),[]⟩,
 ⟨.iad 2 (.r 1) (.r 0),some (6,true),[]⟩,
 ⟨.load (some 2) (.r 0),some (7,true),[]⟩,
 ⟨.mov (.v 0),some (8,true),[]⟩,
 ⟨.nck (.r 0),some (9,true),[]⟩,
 ⟨.fad 4 (.r 0),some (10,true),[]⟩,
 ⟨.fad 6 (.r 0),some (11,true),[]⟩,
 ⟨.load (some 2) (.r 0),some (12,true),[]⟩,
 ⟨.call true (.k (.fn 56 [] [])) [.r 5,.r 0],some (13,true),[]⟩,
 ⟨.un .not (.r 0),some (14,true),[]⟩,
 p (.pick (.r 15) (.r 0) (.k (.bool false))),
 p (.mov (.r 0))] [(0,.v 0),(2,.v 2),(4,.v 4),(5,.v 5),(31,.r 0)])
 (.cond (.v 31)
 (.seq
 (.reg false [p (.call true (.k (.fn 37 [] [])) [.k (.int .i64 161)]),
 p (.store (some 6) (.v 2) (.r 0))] [(2,.v 2)])
 (.frz .ret))
 (.seq
 (.reg false [p (.mov (.v 5)),
 p (.mov (.r 0))] [(0,.v 0),(2,.v 2),(4,.v 4),(51,.r 0)])
 (.cond (.v 51)
 (.seq
 (.reg false [p (.build [.int .i64 0,.str [],.int .i64 0,.int .i64 0,.int .i64 0,.fsl .nil 5 []] []),
 p (.store (some 6) (.v 2) (.r 0))] [(2,.v 2)])
 (.frz .ret))
 (.seq
 (.reg false [p (.mov (.v 0)),
 p (.nck (.r 0)),
 p (.fad 0 (.r 0)),
 p (.fad 2 (.r 0)),
 p (.load (none) (.r 0)),
 p (.len false (.r 0)),
 p (.bin .geq (.r 0) (.k (.int .i64 16))),
 p (.mov (.r 0))] [(0,.v 0),(2,.v 2),(4,.v 4),(54,.r 0)])
 (.cond (.v 54)
 (.seq
 (.reg false [p (.call true (.k (.fn 37 [] [])) [.k (.int .i64 2)]),
 p (.store (some 6) (.v 2) (.r 0))] [(2,.v 2)])
 (.frz .ret))
 .skip)))))))
 (.seq
 (.reg true [p (.mov (.v 0)),
 p (.mov (.v 0)),
 p (.nck (.r 0)),
 p (.fad 0 (.r 0)),
 p (.fad 2 (.r 0)),
 p (.load (none) (.r 0)),
 p (.call false (.k (.fn 148 [] [])) [.r 0]),
 p (.mov (.v 4)),
 p (.mov (.v 0)),
 p (.nck (.r 0)),
 p (.fad 4 (.r 0)),
 p (.fad 6 (.r 0)),
 ⟨.load (some 2) (.r 0),none,[5]⟩,
 p (.bsl 2 [.r 0]),
 p (.call false (.k (.fn 147 [] [])) [.r 7,.r 6,.r 0]),
 p (.nck (.r 14)),
 p (.fad 0 (.r 0)),
 p (.fad 2 (.r 0)),
 p (.store (none) (.r 0) (.r 3))] [(2,.v 2)])
 (.seq
 (.reg false [p (.build [.int .i64 0,.str [],.int .i64 0,.int .i64 0,.int .i64 0,.fsl .nil 5 []] []),
 p (.store (some 6) (.v 2) (.r 0))] [(2,.v 2)])
 (.frz .ret)))))))
def r91:List RV:=[.c 2 (some 6)]
theorem chk91:Chk Tryz.prog Tryz.f91 c91 r91:=⟨_,rfl,by kernel_rfl,by kernel_rfl⟩
theorem ena91:EnA Tryz.prog 91 82 c91 r91:=a2h (by kernel_rfl) Tryz.func91 (by kernel_rfl) chk91
def c92:C :=
  (.seq
 (.reg false [p (.alloc 6 (.agg [.int .i64 0,.str [],.int .i64 0,.int .i64 0,.int .i64 0,.fsl .nil 5 []]))] [(0,.v 0),(2,.r 0)])
 (.seq
 (.seq
 (.reg false [p (.mov (.v 0)),
 p (.nck (.r 0)),
 p (.fad 4 (.r 0)),
 p (.fad 1 (.r 0)),
 p (.load (none) (.r 0)),
 p (.len true (.r 0)),
 p (.bin .lss (.r 0) (.k (.int .i64 1))),
 p (.mov (.r 0)),
 ⟨.mov (.v 0),some (0,false),[]⟩,
 ⟨.nck (.r 0),some (1,false),[]⟩,
 ⟨.fad 4 (.r 0),some (2,false),[]⟩,
 ⟨.fad 1 (.r 0),some (3,false),[]⟩,
 ⟨.load (none) (.r 0),some (4,false),[]⟩,
 ⟨.len true (.r 0),some (5,false),[]⟩,
 ⟨.bin .gtr (.r 0) (.k (.int .i64 16)),some (6,false),[]⟩,
 p (.pick (.r 7) (.k (.bool true)) (.r 0))] [(0,.v 0),(2,.v 2),(23,.r 0)])
 (.cond (.v 23)
 (.seq
 (.reg false [p (.call true (.k (.fn 37 [] [])) [.k (.int .i64 1)]),
 p (.store (some 6) (.v 2) (.r 0))] [(2,.v 2)])
 (.frz .ret))
 .skip))
 (.seq
 (.reg true [p (.mov (.v 0)),
 p (.nck (.r 0)),
 p (.fad 0 (.r 0)),
 p (.load (some 4) (.r 0)),
 p (.call true (.k (.fn 48 [] [])) [.r 0]),
 p (.mov (.v 0)),
 p (.nck (.r 0)),
 p (.fad 4 (.r 0)),
 p (.fad 2 (.r 0)),
 p (.load (none) (.r 0)),
 p (.call true (.k (.fn 55 [] [])) [.r 5,.r 0]),
 p (.mov (.r 0)),
 p (.ext (.r 0) 0),
 p (.ext (.r 1) 1),
 p (.mov (.r 1)),
 p (.mov (.r 1))] [(0,.v 0),(2,.v 2),(3,.r 1),(4,.r 0)])
 (.seq
 (.seq
 (.reg false [p (.mov (.v 4)),
 p (.un .not (.r 0))] [(0,.v 0),(2,.v 2),(3,.v 3),(40,.r 0)])
 (.cond (.v 40)
 (.seq
 (.reg false [p (.call true (.k (.fn 37 [] [])) [.k (.int .i64 161)]),
 p (.store (some 6) (.v 2) (.r 0))] [(2,.v 2)])
 (.frz .ret))
 .skip))
 (.seq
 (.reg true [p (.mov (.v 0)),
 p (.nck (.r 0)),
 p (.fad 0 (.r 0)),
 p (.load (some 4) (.r 0)),
 p (.call true (.k (.fn 50 [] [])) [.r 0]),
 p (.mov (.v 0)),
 p (.nck (.r 0)),
 p (.fad 4 (.r 0)),
 p (.fad 1 (.r 0)),
 p (.load (none) (.r 0)),
 p (.call true (.k (.fn 149 [] [])) [.r 5,.r 0]),
 p (.mov (.r 0)),
 p (.ext (.r 0) 0),
 p (.ext (.r 1) 1),
 p (.mov (.r 1)),
 p (.mov (.r 1))] [(0,.v 0),(2,.v 2),(3,.v 3),(4,.r 0),(5,.r 1)])
 (.seq
 (.block 0
 (.seq
 (.reg true [p (.mov (.v 4)),
 p (.mov (.r 0)),
 ⟨.mov (.v 0),some (0,true),[]⟩,
 ⟨.nck (.r 0),some (1,true),[]⟩,
 ⟨.fad 0 (.r 0),some (2,true),[]⟩,
 ⟨.fad 3 (.r 0),some (3,true),[]⟩,
 ⟨.load (none) (.r 0),some (4,true),[]⟩,
 ⟨.mov (.v 5),some (5,true),[]⟩,
 ⟨.iad 5 (.r 1) (.r 0),some (6,true),[]⟩,
 ⟨.fad 1 (.r 0),some (7,true),[]⟩,
 ⟨.fad 0 (.r 0),some (8,true),[]⟩,
 ⟨.load (none) (.r 0),some (9,true),[]⟩,
 ⟨.mov (.v 0),some (10,true),[]⟩,
 ⟨.nck (.r 0),some (11,true),[]⟩,
 ⟨.fad 4 (.r 0),some (12,true),[]⟩,
 ⟨.fad 2 (.r 0),some (13,true),[]⟩,
 ⟨.load (none) (.r 0),some (14,true),[]⟩,
 ⟨.bin .neq (.r 5) (.r 0),some (15,true),[]⟩,
 p (.pick (.r 16) (.r 0) (.k (.bool false))),
 p (.mov (.r 0))] [(0,.v 0),(2,.v 2),(3,.v 3),(4,.v 4),(5,.v 5),(56,.r 0)])
 (.cond (.v 56)
 (.seq
 (.reg false [p (.call true (.k (.fn 37 [] [])) [.k (.int .i64 190)]),
 p (.store (some 6) (.v 2) (.r 0))] [(2,.v 2)])
 (.frz .ret))
 (.seq
 (.reg false [p (.mov (.v 4)),
 p (.mov (.r 0))] [(0,.v 0),(2,.v 2),(3,.v 3),(5,.v 5),(77,.r 0)])
 (.cond (.v 77)
 (.seq
 (.reg false [p (.build [.int .i64 0,.str [],.int .i64 0,.int .i64 0,.int .i64 0,.fsl .nil 5 []] []),
 p (.store (some 6) (.v 2) (.r 0))] [(2,.v 2)])
 (.frz .ret))
 (.seq
 (.reg false [p (.mov (.v 0)),
 p (.nck (.r 0)),
 p (.fad 0 (.r 0)),
 p (.fad 3 (.r 0)),
 p (.load (none) (.r 0)),
 p (.len false (.r 0)),
 p (.bin .geq (.r 0) (.k (.int .i64 64))),
 p (.mov (.r 0))] [(0,.v 0),(2,.v 2),(3,.v 3),(5,.v 5),(80,.r 0)])
 (.cond (.v 80)
 (.seq
 (.reg false [p (.call true (.k (.fn 37 [] [])) [.k (.int .i64 2)]),
 p (.store (some 6) (.v 2) (.r 0))] [(2,.v 2)])
 (.frz .ret))
 .skip)))))))
 (.seq
 (.reg true [p (.mov (.v 0)),
 p (.nck (.r 0)),
 p (.fad 4 (.r 0)),
 p (.fad 1 (.r 0)),
 p (.load (none) (.r 0)),
 p (.mov (.v 0)),
 p (.nck (.r 0)),
 p (.fad 0 (.r 0)),
 p (.fad 2 (.r 0)),
 p (.load (none) (.r 0)),
 p (.mov (.v 3)),
 p (.iad 2 (.r 1) (.r 0)),
 p (.load (some 2) (.r 0)),
 p (.call true (.k (.fn 150 [] [])) [.r 8,.r 0]),
 p (.mov (.r 0)),
 p (.ext (.r 0) 0),
 p (.ext (.r 1) 1),
 ⟨.alloc 5 (.agg [.str [],.str [],.fsl .nil 4 [],.int .i64 0,.fsl .nil 5 []]),none,[12,7,5,4]⟩,
 p (.store (some 5) (.r 0) (.r 2)),
 p (.mov (.r 2))] [(0,.v 0),(2,.v 2),(5,.v 5),(6,.r 2),(7,.r 0)])
 (.seq
 (.seq
 (.reg false [p (.mov (.v 7)),
 p (.bin .neq (.r 0) (.k (.int .i64 0)))] [(0,.v 0),(2,.v 2),(5,.v 5),(6,.v 6),(7,.v 7),(107,.r 0)])
 (.cond (.v 107)
 (.seq
 (.reg false [p (.mov (.v 7)),
 p (.call true (.k (.fn 37 [] [])) [.r 0]),
 p (.store (some 6) (.v 2) (.r 0))] [(2,.v 2)])
 (.frz .ret))
 .skip))
 (.seq
 (.reg true [p (.mov (.v 0)),
 p (.mov (.v 0)),
 p (.nck (.r 0)),
 p (.fad 0 (.r 0)),
 p (.fad 3 (.r 0)),
 p (.load (none) (.r 0)),
 p (.call false (.k (.fn 152 [] [])) [.r 0]),
 p (.mov (.v 5)),
 ⟨.load (some 5) (.v 6),none,[1]⟩,
 p (.bsl 5 [.r 0]),
 p (.call false (.k (.fn 151 [] [])) [.r 3,.r 2,.r 0]),
 p (.nck (.r 10)),
 p (.fad 0 (.r 0)),
 p (.fad 3 (.r 0)),
 p (.store (none) (.r 0) (.r 3))] [(2,.v 2)])
 (.seq
 (.reg false [p (.build [.int .i64 0,.str [],.int .i64 0,.int .i64 0,.int .i64 0,.fsl .nil 5 []] []),
 p (.store (some 6) (.v 2) (.r 0))] [(2,.v 2)])
 (.frz .ret)))))))))))
def r92:List RV:=[.c 2 (some 6)]
theorem chk92:Chk Tryz.prog Tryz.f92 c92 r92:=⟨_,rfl,by kernel_rfl,by kernel_rfl⟩
theorem ena92:EnA Tryz.prog 92 125 c92 r92:=a2h (by kernel_rfl) Tryz.func92 (by kernel_rfl) chk92
def c93:C :=
  (.seq
 (.reg false [p (.alloc 6 (.agg [.int .i64 0,.str [],.int .i64 0,.int .i64 0,.int .i64 0,.fsl .nil 5 []]))] [(0,.v 0),(2,.r 0)])
 (.seq
 (.seq
 (.reg false [p (.mov (.v 0)),
 p (.nck (.r 0)),
 p (.fad 0 (.r 0)),
 p (.fad 1 (.r 0)),
 p (.load (none) (.r 0)),
 p (.bin .geq (.r 0) (.k (.int .i64 1099511627776)))] [(0,.v 0),(2,.v 2),(13,.r 0)])
 (.cond (.v 13)
 (.seq
 (.reg false [p (.call true (.k (.fn 37 [] [])) [.k (.int .i64 192)]),
 p (.store (some 6) (.v 2) (.r 0))] [(2,.v 2)])
 (.frz .ret))
 .skip))
 (.seq
 (.seq
 (.reg false [p (.mov (.v 0)),
 p (.nck (.r 0)),
 p (.fad 0 (.r 0)),
 p (.fad 3 (.r 0)),
 p (.load (none) (.r 0)),
 p (.len false (.r 0)),
 p (.mov (.k (.int .i64 0)))] [(0,.v 0),(2,.v 2),(19,.r 2),(20,.r 1),(21,.r 0)])
 (.block 0
 (.loop
 (.seq
 (.reg false [p (.bin .lss (.v 21) (.v 20))] [(0,.v 0),(2,.v 2),(19,.v 19),(20,.v 20),(21,.v 21),(22,.r 0)])
 (.seq
 (.cond (.v 22)
 .skip
 (.exit 0))
 (.seq
 (.block 1
 (.seq
 (.reg false [p (.mov (.v 21)),
 p (.iad 5 (.v 19) (.v 21)),
 p (.load (some 5) (.r 0)),
 p (.alloc 5 (.agg [.str [],.str [],.fsl .nil 4 [],.int .i64 0,.fsl .nil 5 []])),
 p (.mov (.r 3)),
 p (.store (some 5) (.r 1) (.r 2))] [(0,.v 0),(2,.v 2),(3,.r 1),(4,.r 2),(19,.v 19),(20,.v 20),(21,.v 21)])
 (.seq
 (.reg true [p (.load (some 5) (.v 4)),
 p (.mov (.v 0)),
 p (.nck (.r 0)),
 p (.fad 0 (.r 0)),
 p (.fad 0 (.r 0)),
 p (.load (none) (.r 0)),
 p (.mov (.v 0)),
 p (.nck (.r 0)),
 p (.fad 0 (.r 0)),
 p (.fad 1 (.r 0)),
 p (.load (none) (.r 0)),
 p (.bin .add (.r 0) (.k (.int .i64 1))),
 p (.call true (.k (.fn 153 [] [])) [.r 11,.r 6,.r 0]),
 p (.mov (.r 0)),
 p (.ext (.r 0) 0),
 p (.ext (.r 1) 1),
 p (.ext (.r 2) 2),
 ⟨.alloc 5 (.agg [.str [],.str [],.fsl .nil 4 [],.int .i64 0,.fsl .nil 5 []]),none,[16,11,6]⟩,
 p (.store (some 5) (.r 0) (.r 3)),
 p (.mov (.r 3)),
 p (.mov (.r 3))] [(0,.v 0),(2,.v 2),(3,.v 3),(5,.r 3),(6,.r 1),(7,.r 0),(19,.v 19),(20,.v 20),(21,.v 21)])
 (.seq
 (.seq
 (.reg false [p (.mov (.v 7)),
 p (.bin .neq (.r 0) (.k (.int .i64 0)))] [(0,.v 0),(2,.v 2),(3,.v 3),(5,.v 5),(6,.v 6),(19,.v 19),(20,.v 20),(21,.v 21),(44,.r 0)])
 (.cond (.v 44)
 (.exit 1)
 .skip))
 (.seq
 (.reg false [p (.mov (.v 0)),
 p (.mov (.v 3)),
 p (.load (some 5) (.v 5)),
 p (.call false (.k (.fn 154 [] [])) [.r 2,.r 1,.r 0])] [(0,.v 0),(2,.v 2),(5,.v 5),(6,.v 6)])
 (.seq
 (.reg false [p (.mov (.v 0)),
 p (.nck (.r 0)),
 p (.fad 0 (.r 0)),
 p (.fad 1 (.r 0)),
 p (.load (none) (.r 0)),
 p (.bin .add (.r 0) (.k (.int .i64 1))),
 p (.nck (.r 5)),
 p (.fad 0 (.r 0)),
 p (.fad 1 (.r 0)),
 p (.store (none) (.r 0) (.r 3))] [(0,.v 0),(2,.v 2),(5,.v 5),(6,.v 6)])
 (.seq
 (.reg true [p (.fad 0 (.v 5)),
 p (.load (none) (.r 0)),
 p (.mov (.v 6)),
 p (.mov (.v 0)),
 p (.nck (.r 0)),
 p (.fad 0 (.r 0)),
 p (.fad 1 (.r 0)),
 p (.load (none) (.r 0)),
 p (.build [.int .i64 0,.str [],.int .i64 0,.int .i64 0,.int .i64 0,.fsl .nil 5 []] [(1,1,.r 6),(2,1,.r 5),(3,1,.r 0)]),
 p (.store (some 6) (.v 2) (.r 0))] [(2,.v 2)])
 (.frz .ret))))))))
 (.reg false [p (.bin .add (.v 21) (.k (.int .i64 1))),
 p (.mov (.r 0))] [(0,.v 0),(2,.v 2),(19,.v 19),(20,.v 20),(21,.r 0)])))))))
 (.frz
 (.seq
 (.reg false [p (.call true (.k (.fn 37 [] [])) [.k (.int .i64 192)]),
 p (.store (some 6) (.v 2) (.r 0))] [(2,.v 2)])
 (.frz .ret))))))
def r93:List RV:=[.c 2 (some 6)]
theorem chk93:Chk Tryz.prog Tryz.f93 c93 r93:=⟨_,rfl,by kernel_rfl,by kernel_rfl⟩
theorem ena93:EnA Tryz.prog 93 69 c93 r93:=a2h (by kernel_rfl) Tryz.func93 (by kernel_rfl) chk93
def c209:C :=
  (.seq
 (.reg false [p (.box 5 (.v 0)),
 p (.mov (.k (.bool false)))] [(1,.v 1),(2,.r 1)])
 (.seq
 (.reg true [p (.fad 0 (.v 2)),
 p (.load (none) (.r 0)),
 p (.bin .eql (.r 0) (.k (.int .i64 2))),
 p (.mov (.r 0)),
 ⟨.fad 3 (.v 2),some (0,true),[]⟩,
 ⟨.load (none) (.r 0),some (1,true),[]⟩,
 ⟨.load (none) (.v 1),some (2,true),[]⟩,
 ⟨.nck (.r 0),some (3,true),[]⟩,
 ⟨.fad 4 (.r 0),some (4,true),[]⟩,
 ⟨.fad 3 (.r 0),some (5,true),[]⟩,
 ⟨.load (none) (.r 0),some (6,true),[]⟩,
 ⟨.bin .eql (.r 5) (.r 0),some (7,true),[]⟩,
 p (.pick (.r 8) (.r 0) (.k (.bool false))),
 p (.mov (.r 0))] [(3,.r 0)])
 .ret))
def r209:List RV:=[.t 3]
theorem chk209:Chk Tryz.prog Tryz.f209 c209 r209:=⟨_,rfl,by kernel_rfl,by kernel_rfl⟩
theorem ena209:EnA Tryz.prog 209 17 c209 r209:=a2h (by kernel_rfl) Tryz.func209 (by kernel_rfl) chk209
def c208:C :=
  (.seq
 (.reg false [p (.box 5 (.v 0)),
 p (.mov (.k (.bool false)))] [(1,.v 1),(2,.r 1)])
 (.seq
 (.reg false [p (.fad 4 (.v 2)),
 p (.load (none) (.r 0)),
 p (.mkf 209 [] [.v 1]),
 p (.call false (.k (.fn 203 [] [])) [.r 1,.r 0]),
 p (.mov (.r 0))] [(3,.r 0)])
 .ret))
def r208:List RV:=[.t 3]
theorem chk208:Chk Tryz.prog Tryz.f208 c208 r208:=⟨_,rfl,by kernel_rfl,by kernel_rfl⟩
theorem ena208:EnA Tryz.prog 208 8 c208 r208:=a2h (by kernel_rfl) Tryz.func208 (by kernel_rfl) chk208
def c155:C :=
  (.seq
 (.reg false [p (.box 1 (.v 0)),
 p (.alloc 6 (.agg [.int .i64 0,.str [],.int .i64 0,.int .i64 0,.int .i64 0,.fsl .nil 5 []]))] [(1,.v 1),(2,.r 1),(4,.r 0)])
 (.seq
 (.reg false [p (.load (none) (.v 2)),
 p (.nck (.r 0)),
 p (.fad 0 (.r 0)),
 p (.fad 3 (.r 0)),
 p (.load (none) (.r 0)),
 p (.mkf 208 [] [.v 2]),
 p (.call false (.k (.fn 207 [] [])) [.r 1,.r 0]),
 p (.mov (.r 0))] [(1,.v 1),(2,.v 2),(4,.v 4),(5,.r 0)])
 (.seq
 (.seq
 (.reg false [p (.mov (.v 5)),
 p (.bin .lss (.r 0) (.k (.int .i64 0)))] [(1,.v 1),(2,.v 2),(4,.v 4),(5,.v 5),(16,.r 0)])
 (.cond (.v 16)
 (.seq
 (.reg false [p (.call true (.k (.fn 37 [] [])) [.k (.int .i64 191)]),
 p (.store (some 6) (.v 4) (.r 0))] [(4,.v 4)])
 (.frz .ret))
 .skip))
 (.seq
 (.reg false [p (.mov (.v 1)),
 p (.load (none) (.v 2)),
 p (.nck (.r 0)),
 p (.fad 0 (.r 0)),
 p (.fad 3 (.r 0)),
 p (.load (none) (.r 0)),
 p (.mov (.v 5)),
 p (.iad 5 (.r 1) (.r 0)),
 p (.load (some 5) (.r 0)),
 p (.call false (.r 8) [.r 0]),
 p (.mov (.r 0)),
 p (.ext (.r 0) 0),
 p (.ext (.r 1) 1),
 p (.alloc 5 (.agg [.str [],.str [],.fsl .nil 4 [],.int .i64 0,.fsl .nil 5 []])),
 p (.store (some 5) (.r 0) (.r 2)),
 p (.mov (.r 2))] [(2,.v 2),(4,.v 4),(5,.v 5),(6,.r 2),(7,.r 0)])
 (.seq
 (.seq
 (.reg false [p (.mov (.v 7)),
 p (.bin .neq (.r 0) (.k (.int .i64 0)))] [(2,.v 2),(4,.v 4),(5,.v 5),(6,.v 6),(7,.v 7),(32,.r 0)])
 (.cond (.v 32)
 (.seq
 (.reg false [p (.mov (.v 7)),
 p (.call true (.k (.fn 37 [] [])) [.r 0]),
 p (.store (some 6) (.v 4) (.r 0))] [(4,.v 4)])
 (.frz .ret))
 .skip))
 (.seq
 (.reg false [p (.load (none) (.v 2)),
 p (.mov (.v 5)),
 p (.load (some 5) (.v 6)),
 p (.call false (.k (.fn 154 [] [])) [.r 2,.r 1,.r 0])] [(4,.v 4),(6,.v 6)])
 (.seq
 (.reg false [p (.fad 0 (.v 6)),
 p (.load (none) (.r 0)),
 p (.build [.int .i64 0,.str [],.int .i64 0,.int .i64 0,.int .i64 0,.fsl .nil 5 []] [(1,1,.r 0)]),
 p (.store (some 6) (.v 4) (.r 0))] [(4,.v 4)])
 (.frz .ret))))))))
def r155:List RV:=[.c 4 (some 6)]
theorem chk155:Chk Tryz.prog Tryz.f155 c155 r155:=⟨_,rfl,by kernel_rfl,by kernel_rfl⟩
theorem ena155:EnA Tryz.prog 155 42 c155 r155:=a2h (by kernel_rfl) Tryz.func155 (by kernel_rfl) chk155
def c156:C :=
  (.seq
 (.reg false [p (.box 5 (.v 0)),
 p (.alloc 5 (.agg [.str [],.str [],.fsl .nil 4 [],.int .i64 0,.fsl .nil 5 []])),
 p (.mov (.k (.int .i64 0)))] [(1,.v 1),(2,.r 2),(3,.r 1)])
 (.seq
 (.reg true [p (.load (some 5) (.v 2)),
 p (.load (none) (.v 1)),
 p (.nck (.r 0)),
 p (.fad 0 (.r 0)),
 p (.fad 0 (.r 0)),
 p (.load (none) (.r 0)),
 p (.load (none) (.v 1)),
 p (.nck (.r 0)),
 p (.fad 4 (.r 0)),
 p (.fad 3 (.r 0)),
 p (.load (none) (.r 0)),
 p (.call true (.k (.fn 157 [] [])) [.r 10,.r 5,.r 0]),
 p (.ext (.r 0) 0),
 p (.ext (.r 1) 1),
 p (.store (some 5) (.v 3) (.r 1)),
 p (.mov (.r 1))] [(3,.v 3),(4,.r 0)])
 .ret))
def r156:List RV:=[.c 3 (some 5),.t 4]
theorem chk156:Chk Tryz.prog Tryz.f156 c156 r156:=⟨_,rfl,by kernel_rfl,by kernel_rfl⟩
theorem ena156:EnA Tryz.prog 156 19 c156 r156:=a2h (by kernel_rfl) Tryz.func156 (by kernel_rfl) chk156
def c158:C :=
  (.seq
 (.reg false [p (.box 5 (.v 0)),
 p (.alloc 5 (.agg [.str [],.str [],.fsl .nil 4 [],.int .i64 0,.fsl .nil 5 []])),
 p (.mov (.k (.int .i64 0)))] [(1,.v 1),(2,.r 2),(3,.r 1)])
 (.seq
 (.reg true [p (.load (some 5) (.v 2)),
 p (.load (none) (.v 1)),
 p (.nck (.r 0)),
 p (.fad 0 (.r 0)),
 p (.fad 0 (.r 0)),
 p (.load (none) (.r 0)),
 p (.load (none) (.v 1)),
 p (.nck (.r 0)),
 p (.fad 4 (.r 0)),
 p (.fad 3 (.r 0)),
 p (.load (none) (.r 0)),
 p (.load (none) (.v 1)),
 p (.nck (.r 0)),
 p (.fad 4 (.r 0)),
 p (.fad 5 (.r 0)),
 p (.load (none) (.r 0)),
 p (.call true (.k (.fn 159 [] [])) [.r 15,.r 10,.r 5,.r 0]),
 p (.ext (.r 0) 0),
 p (.ext (.r 1) 1),
 p (.store (some 5) (.v 3) (.r 1)),
 p (.mov (.r 1))] [(3,.v 3),(4,.r 0)])
 .ret))
def r158:List RV:=[.c 3 (some 5),.t 4]
theorem chk158:Chk Tryz.prog Tryz.f158 c158 r158:=⟨_,rfl,by kernel_rfl,by kernel_rfl⟩
theorem ena158:EnA Tryz.prog 158 24 c158 r158:=a2h (by kernel_rfl) Tryz.func158 (by kernel_rfl) chk158
def c160:C :=
  (.seq
 (.reg false [p (.box 5 (.v 0)),
 p (.alloc 5 (.agg [.str [],.str [],.fsl .nil 4 [],.int .i64 0,.fsl .nil 5 []])),
 p (.mov (.k (.int .i64 0)))] [(1,.v 1),(2,.r 2),(3,.r 1)])
 (.seq
 (.reg true [p (.load (some 5) (.v 2)),
 p (.load (none) (.v 1)),
 p (.nck (.r 0)),
 p (.fad 0 (.r 0)),
 p (.fad 0 (.r 0)),
 p (.load (none) (.r 0)),
 p (.load (none) (.v 1)),
 p (.nck (.r 0)),
 p (.fad 4 (.r 0)),
 p (.fad 3 (.r 0)),
 p (.load (none) (.r 0)),
 p (.call true (.k (.fn 161 [] [])) [.r 10,.r 5,.r 0]),
 p (.ext (.r 0) 0),
 p (.ext (.r 1) 1),
 p (.store (some 5) (.v 3) (.r 1)),
 p (.mov (.r 1))] [(3,.v 3),(4,.r 0)])
 .ret))
def r160:List RV:=[.c 3 (some 5),.t 4]
theorem chk160:Chk Tryz.prog Tryz.f160 c160 r160:=⟨_,rfl,by kernel_rfl,by kernel_rfl⟩
theorem ena160:EnA Tryz.prog 160 19 c160 r160:=a2h (by kernel_rfl) Tryz.func160 (by kernel_rfl) chk160
def c94:C :=
  (.seq
 (.reg false [p (.box 1 (.v 0)),
 p (.alloc 6 (.agg [.int .i64 0,.str [],.int .i64 0,.int .i64 0,.int .i64 0,.fsl .nil 5 []]))] [(1,.r 1),(2,.r 0)])
 (.seq
 (.reg false [p (.load (none) (.v 1)),
 p (.mkf 156 [] [.v 1]),
 p (.call false (.k (.fn 155 [] [])) [.r 1,.r 0]),
 p (.store (some 6) (.v 2) (.r 0))] [(2,.v 2)])
 .ret))
def r94:List RV:=[.c 2 (some 6)]
theorem chk94:Chk Tryz.prog Tryz.f94 c94 r94:=⟨_,rfl,by kernel_rfl,by kernel_rfl⟩
theorem ena94:EnA Tryz.prog 94 6 c94 r94:=a2h (by kernel_rfl) Tryz.func94 (by kernel_rfl) chk94
def c95:C :=
  (.seq
 (.reg false [p (.box 1 (.v 0)),
 p (.alloc 6 (.agg [.int .i64 0,.str [],.int .i64 0,.int .i64 0,.int .i64 0,.fsl .nil 5 []]))] [(1,.r 1),(2,.r 0)])
 (.seq
 (.reg false [p (.load (none) (.v 1)),
 p (.mkf 158 [] [.v 1]),
 p (.call false (.k (.fn 155 [] [])) [.r 1,.r 0]),
 p (.store (some 6) (.v 2) (.r 0))] [(2,.v 2)])
 .ret))
def r95:List RV:=[.c 2 (some 6)]
theorem chk95:Chk Tryz.prog Tryz.f95 c95 r95:=⟨_,rfl,by kernel_rfl,by kernel_rfl⟩
theorem ena95:EnA Tryz.prog 95 6 c95 r95:=a2h (by kernel_rfl) Tryz.func95 (by kernel_rfl) chk95
def c96:C :=
  (.seq
 (.reg false [p (.box 1 (.v 0)),
 p (.alloc 6 (.agg [.int .i64 0,.str [],.int .i64 0,.int .i64 0,.int .i64 0,.fsl .nil 5 []]))] [(1,.r 1),(2,.r 0)])
 (.seq
 (.reg false [p (.load (none) (.v 1)),
 p (.mkf 160 [] [.v 1]),
 p (.call false (.k (.fn 155 [] [])) [.r 1,.r 0]),
 p (.store (some 6) (.v 2) (.r 0))] [(2,.v 2)])
 .ret))
def r96:List RV:=[.c 2 (some 6)]
theorem chk96:Chk Tryz.prog Tryz.f96 c96 r96:=⟨_,rfl,by kernel_rfl,by kernel_rfl⟩
theorem ena96:EnA Tryz.prog 96 6 c96 r96:=a2h (by kernel_rfl) Tryz.func96 (by kernel_rfl) chk96
def c97:C :=
  (.seq
 (.reg false [p (.alloc 6 (.agg [.int .i64 0,.str [],.int .i64 0,.int .i64 0,.int .i64 0,.fsl .nil 5 []]))] [(0,.v 0),(2,.r 0)])
 (.seq
 (.reg true [p (.mov (.v 0)),
 p (.nck (.r 0)),
 p (.fad 0 (.r 0)),
 p (.load (some 4) (.r 0)),
 p (.call true (.k (.fn 50 [] [])) [.r 0]),
 p (.mov (.v 0)),
 p (.nck (.r 0)),
 p (.fad 4 (.r 0)),
 p (.fad 1 (.r 0)),
 p (.load (none) (.r 0)),
 p (.call true (.k (.fn 149 [] [])) [.r 5,.r 0]),
 p (.mov (.r 0)),
 p (.ext (.r 0) 0),
 p (.ext (.r 1) 1),
 p (.mov (.r 1)),
 p (.mov (.r 1))] [(0,.v 0),(2,.v 2),(3,.r 1),(4,.r 0)])
 (.seq
 (.seq
 (.reg false [p (.mov (.v 4)),
 p (.un .not (.r 0))] [(0,.v 0),(2,.v 2),(3,.v 3),(22,.r 0)])
 (.cond (.v 22)
 (.seq
 (.reg false [p (.call true (.k (.fn 37 [] [])) [.k (.int .i64 190)]),
 p (.store (some 6) (.v 2) (.r 0))] [(2,.v 2)])
 (.frz .ret))
 .skip))
 (.seq
 (.reg true [p (.mov (.v 0)),
 p (.nck (.r 0)),
 p (.fad 0 (.r 0)),
 p (.fad 3 (.r 0)),
 p (.load (none) (.r 0)),
 p (.mov (.v 3)),
 p (.iad 5 (.r 1) (.r 0)),
 p (.load (some 5) (.r 0)),
 p (.mov (.v 0)),
 p (.nck (.r 0)),
 p (.fad 0 (.r 0)),
 p (.fad 0 (.r 0)),
 p (.load (none) (.r 0)),
 p (.call true (.k (.fn 162 [] [])) [.r 5,.r 0]),
 p (.mov (.r 0)),
 p (.ext (.r 0) 0),
 p (.ext (.r 1) 1),
 ⟨.alloc 5 (.agg [.str [],.str [],.fsl .nil 4 [],.int .i64 0,.fsl .nil 5 []]),none,[12,10,9,4]⟩,
 p (.store (some 5) (.r 0) (.r 2)),
 p (.mov (.r 2))] [(0,.v 0),(2,.v 2),(3,.v 3),(5,.r 2),(6,.r 0)])
 (.seq
 (.seq
 (.reg false [p (.mov (.v 6)),
 p (.bin .neq (.r 0) (.k (.int .i64 0)))] [(0,.v 0),(2,.v 2),(3,.v 3),(5,.v 5),(6,.v 6),(42,.r 0)])
 (.cond (.v 42)
 (.seq
 (.reg false [p (.mov (.v 6)),
 p (.call true (.k (.fn 37 [] [])) [.r 0]),
 p (.store (some 6) (.v 2) (.r 0))] [(2,.v 2)])
 (.frz .ret))
 .skip))
 (.seq
 (.reg false [p (.mov (.v 0)),
 p (.mov (.v 3)),
 p (.load (some 5) (.v 5)),
 p (.call false (.k (.fn 154 [] [])) [.r 2,.r 1,.r 0])] [(2,.v 2)])
 (.seq
 (.reg false [p (.build [.int .i64 0,.str [],.int .i64 0,.int .i64 0,.int .i64 0,.fsl .nil 5 []] []),
 p (.store (some 6) (.v 2) (.r 0))] [(2,.v 2)])
 (.frz .ret))))))))
def r97:List RV:=[.c 2 (some 6)]
theorem chk97:Chk Tryz.prog Tryz.f97 c97 r97:=⟨_,rfl,by kernel_rfl,by kernel_rfl⟩
theorem ena97:EnA Tryz.prog 97 50 c97 r97:=a2h (by kernel_rfl) Tryz.func97 (by kernel_rfl) chk97
def c98:C :=
  (.seq
 (.reg false [p (.alloc 6 (.agg [.int .i64 0,.str [],.int .i64 0,.int .i64 0,.int .i64 0,.fsl .nil 5 []]))] [(0,.v 0),(2,.r 0)])
 (.seq
 (.seq
 (.reg false [p (.mov (.v 0)),
 p (.nck (.r 0)),
 p (.fad 4 (.r 0)),
 p (.fad 4 (.r 0)),
 p (.load (none) (.r 0)),
 p (.bin .lss (.r 0) (.k (.int .i64 0))),
 p (.mov (.r 0)),
 ⟨.mov (.v 0),some (0,false),[]⟩,
 ⟨.nck (.r 0),some (1,false),[]⟩,
 ⟨.fad 4 (.r 0),some (2,false),[]⟩,
 ⟨.fad 4 (.r 0),some (3,false),[]⟩,
 ⟨.load (none) (.r 0),some (4,false),[]⟩,
 ⟨.bin .gtr (.r 0) (.k (.int .i64 1099511627776)),some (5,false),[]⟩,
 p (.pick (.r 6) (.k (.bool true)) (.r 0))] [(0,.v 0),(2,.v 2),(16,.r 0)])
 (.cond (.v 16)
 (.seq
 (.reg false [p (.call true (.k (.fn 37 [] [])) [.k (.int .i64 1)]),
 p (.store (some 6) (.v 2) (.r 0))] [(2,.v 2)])
 .ret)
 .skip))
 (.seq
 (.reg true [p (.mov (.v 0)),
 p (.mov (.v 0)),
 p (.nck (.r 0)),
 p (.fad 0 (.r 0)),
 p (.fad 0 (.r 0)),
 p (.load (none) (.r 0)),
 p (.mov (.v 0)),
 p (.nck (.r 0)),
 p (.fad 4 (.r 0)),
 p (.fad 4 (.r 0)),
 p (.load (none) (.r 0)),
 p (.mnx true (.r 5) [.r 0]),
 p (.nck (.r 11)),
 p (.fad 0 (.r 0)),
 p (.fad 0 (.r 0)),
 p (.store (none) (.r 0) (.r 3))] [(2,.v 2)])
 (.seq
 (.reg false [p (.build [.int .i64 0,.str [],.int .i64 0,.int .i64 0,.int .i64 0,.fsl .nil 5 []] []),
 p (.store (some 6) (.v 2) (.r 0))] [(2,.v 2)])
 .ret))))
def r98:List RV:=[.c 2 (some 6)]
theorem chk98:Chk Tryz.prog Tryz.f98 c98 r98:=⟨_,rfl,by kernel_rfl,by kernel_rfl⟩
theorem ena98:EnA Tryz.prog 98 34 c98 r98:=a2h (by kernel_rfl) Tryz.func98 (by kernel_rfl) chk98
def c99:C :=
  (.seq
 (.reg false [p (.alloc 6 (.agg [.int .i64 0,.str [],.int .i64 0,.int .i64 0,.int .i64 0,.fsl .nil 5 []]))] [(0,.v 0),(2,.r 0)])
 (.seq
 (.reg true [p (.mov (.v 0)),
 p (.nck (.r 0)),
 p (.fad 0 (.r 0)),
 p (.load (some 4) (.r 0)),
 p (.call true (.k (.fn 50 [] [])) [.r 0]),
 p (.mov (.v 0)),
 p (.nck (.r 0)),
 p (.fad 4 (.r 0)),
 p (.fad 1 (.r 0)),
 p (.load (none) (.r 0)),
 p (.call true (.k (.fn 149 [] [])) [.r 5,.r 0]),
 p (.mov (.r 0)),
 p (.ext (.r 0) 0),
 p (.ext (.r 1) 1),
 p (.mov (.r 1)),
 p (.mov (.r 1))] [(0,.v 0),(2,.v 2),(3,.r 1),(4,.r 0)])
 (.seq
 (.seq
 (.reg false [p (.mov (.v 4)),
 p (.un .not (.r 0))] [(0,.v 0),(2,.v 2),(3,.v 3),(22,.r 0)])
 (.cond (.v 22)
 (.seq
 (.reg false [p (.call true (.k (.fn 37 [] [])) [.k (.int .i64 190)]),
 p (.store (some 6) (.v 2) (.r 0))] [(2,.v 2)])
 .ret)
 .skip))
 (.seq
 (.reg true [p (.mov (.v 0)),
 p (.nck (.r 0)),
 p (.fad 0 (.r 0)),
 p (.fad 3 (.r 0)),
 p (.load (none) (.r 0)),
 p (.mov (.v 3)),
 p (.iad 5 (.r 1) (.r 0)),
 p (.load (some 5) (.r 0)),
 p (.mov (.v 0)),
 p (.nck (.r 0)),
 p (.fad 0 (.r 0)),
 p (.fad 0 (.r 0)),
 p (.load (none) (.r 0)),
 p (.call true (.k (.fn 163 [] [])) [.r 5,.r 0]),
 p (.mov (.r 0)),
 p (.ext (.r 0) 0),
 p (.ext (.r 1) 1),
 ⟨.alloc 5 (.agg [.str [],.str [],.fsl .nil 4 [],.int .i64 0,.fsl .nil 5 []]),none,[12,10,9,4]⟩,
 p (.store (some 5) (.r 0) (.r 2)),
 p (.mov (.r 2))] [(2,.v 2),(5,.r 2),(6,.r 0)])
 (.seq
 (.seq
 (.reg false [p (.mov (.v 6)),
 p (.bin .neq (.r 0) (.k (.int .i64 0)))] [(2,.v 2),(5,.v 5),(6,.v 6),(42,.r 0)])
 (.cond (.v 42)
 (.seq
 (.reg false [p (.mov (.v 6)),
 p (.call true (.k (.fn 37 [] [])) [.r 0]),
 p (.store (some 6) (.v 2) (.r 0))] [(2,.v 2)])
 .ret)
 .skip))
 (.seq
 (.reg false [p (.fad 0 (.v 5)),
 p (.load (none) (.r 0)),
 p (.fad 3 (.v 5)),
 p (.load (none) (.r 0)),
 p (.fad 4 (.v 5)),
 p (.load (none) (.r 0)),
 p (.build [.int .i64 0,.str [],.int .i64 0,.int .i64 0,.int .i64 0,.fsl .nil 5 []] [(1,1,.r 4),(4,1,.r 2),(5,1,.r 0)]),
 p (.store (some 6) (.v 2) (.r 0))] [(2,.v 2)])
 .ret))))))
def r99:List RV:=[.c 2 (some 6)]
theorem chk99:Chk Tryz.prog Tryz.f99 c99 r99:=⟨_,rfl,by kernel_rfl,by kernel_rfl⟩
theorem ena99:EnA Tryz.prog 99 52 c99 r99:=a2h (by kernel_rfl) Tryz.func99 (by kernel_rfl) chk99
def c100:C :=
  (.seq
 (.reg false [p (.alloc 6 (.agg [.int .i64 0,.str [],.int .i64 0,.int .i64 0,.int .i64 0,.fsl .nil 5 []]))] [(2,.r 0)])
 (.seq
 (.reg false [p (.build [.int .i64 0,.str [],.int .i64 0,.int .i64 0,.int .i64 0,.fsl .nil 5 []] []),
 p (.store (some 6) (.v 2) (.r 0))] [(2,.v 2)])
 .ret))
def r100:List RV:=[.c 2 (some 6)]
theorem chk100:Chk Tryz.prog Tryz.f100 c100 r100:=⟨_,rfl,by kernel_rfl,by kernel_rfl⟩
theorem ena100:EnA Tryz.prog 100 4 c100 r100:=a2h (by kernel_rfl) Tryz.func100 (by kernel_rfl) chk100
def c38:C :=
  (.seq
 (.reg false [p (.mov (.k (.nilf)))] [(0,.v 0)])
 (.seq
 (.seq
 (.reg false [p (.mov (.v 0)),
 p (.nck (.r 0)),
 p (.fad 4 (.r 0)),
 p (.fad 0 (.r 0)),
 p (.load (none) (.r 0))] [(0,.v 0),(7,.r 0)])
 (.block 0
 (.seq
 (.reg false [p (.bin .eql (.v 7) (.k (.int .i64 1))),
 p (.mov (.r 0))] [(0,.v 0),(7,.v 7),(8,.r 0)])
 (.cond (.v 8)
 (.seq
 (.reg false [p (.mov (.v 0)),
 p (.mkf 91 [.r 0] []),
 p (.mov (.r 0))] [(2,.r 0)])
 .ret)
 (.seq
 (.reg false [p (.bin .eql (.v 7) (.k (.int .i64 2))),
 p (.mov (.r 0))] [(0,.v 0),(7,.v 7),(12,.r 0)])
 (.cond (.v 12)
 (.seq
 (.reg false [p (.mov (.v 0)),
 p (.mkf 92 [.r 0] []),
 p (.mov (.r 0))] [(2,.r 0)])
 .ret)
 (.seq
 (.reg false [p (.bin .eql (.v 7) (.k (.int .i64 3))),
 p (.mov (.r 0))] [(0,.v 0),(7,.v 7),(16,.r 0)])
 (.cond (.v 16)
 (.seq
 (.reg false [p (.mov (.v 0)),
 p (.mkf 93 [.r 0] []),
 p (.mov (.r 0))] [(2,.r 0)])
 .ret)
 (.seq
 (.reg false [p (.bin .eql (.v 7) (.k (.int .i64 4))),
 p (.mov (.r 0))] [(0,.v 0),(7,.v 7),(20,.r 0)])
 (.cond (.v 20)
 (.seq
 (.reg false [p (.mov (.v 0)),
 p (.mkf 94 [.r 0] []),
 p (.mov (.r 0))] [(2,.r 0)])
 .ret)
 (.seq
 (.reg false [p (.bin .eql (.v 7) (.k (.int .i64 5))),
 p (.mov (.r 0))] [(0,.v 0),(7,.v 7),(24,.r 0)])
 (.cond (.v 24)
 (.seq
 (.reg false [p (.mov (.v 0)),
 p (.mkf 95 [.r 0] []),
 p (.mov (.r 0))] [(2,.r 0)])
 .ret)
 (.seq
 (.reg false [p (.bin .eql (.v 7) (.k (.int .i64 6))),
 p (.mov (.r 0))] [(0,.v 0),(7,.v 7),(28,.r 0)])
 (.cond (.v 28)
 (.seq
 (.reg false [p (.mov (.v 0)),
 p (.mkf 96 [.r 0] []),
 p (.mov (.r 0))] [(2,.r 0)])
 .ret)
 (.seq
 (.reg false [p (.bin .eql (.v 7) (.k (.int .i64 7))),
 p (.mov (.r 0))] [(0,.v 0),(7,.v 7),(32,.r 0)])
 (.cond (.v 32)
 (.seq
 (.reg false [p (.mov (.v 0)),
 p (.mkf 97 [.r 0] []),
 p (.mov (.r 0))] [(2,.r 0)])
 .ret)
 (.seq
 (.reg false [p (.bin .eql (.v 7) (.k (.int .i64 8))),
 p (.mov (.r 0))] [(0,.v 0),(7,.v 7),(36,.r 0)])
 (.cond (.v 36)
 (.seq
 (.reg false [p (.mov (.v 0)),
 p (.mkf 98 [.r 0] []),
 p (.mov (.r 0))] [(2,.r 0)])
 .ret)
 (.seq
 (.reg false [p (.bin .eql (.v 7) (.k (.int .i64 9))),
 p (.mov (.r 0))] [(0,.v 0),(7,.v 7),(40,.r 0)])
 (.cond (.v 40)
 (.seq
 (.reg false [p (.mov (.v 0)),
 p (.mkf 99 [.r 0] []),
 p (.mov (.r 0))] [(2,.r 0)])
 .ret)
 (.seq
 (.reg false [p (.bin .eql (.v 7) (.k (.int .i64 10))),
 p (.mov (.r 0))] [(0,.v 0),(44,.r 0)])
 (.cond (.v 44)
 (.seq
 (.reg false [p (.mov (.v 0)),
 p (.mkf 100 [.r 0] []),
 p (.mov (.r 0))] [(2,.r 0)])
 .ret)
 .skip))))))))))))))))))))))
 (.seq
 (.reg false [p (.mov (.k (.nilf)))] [(2,.r 0)])
 .ret)))
def r38:List RV:=[.t 2]
theorem chk38:Chk Tryz.prog Tryz.f38 c38 r38:=⟨_,rfl,by kernel_rfl,by kernel_rfl⟩
theorem ena38:EnA Tryz.prog 38 48 c38 r38:=a2h (by kernel_rfl) Tryz.func38 (by kernel_rfl) chk38
def c14:C :=
  (.seq
 (.reg false [p (.box 4 (.v 0)),
 p (.box 8 (.v 1)),
 p (.alloc 4 (.agg [.int .i64 0,.int .i64 0,.fsl .nil 2 [],.fsl .nil 5 []])),
 p (.alloc 6 (.agg [.int .i64 0,.str [],.int .i64 0,.int .i64 0,.int .i64 0,.fsl .nil 5 []]))] [(2,.r 3),(3,.r 2),(4,.r 1),(5,.r 0)])
 (.seq
 (.seq
 (.reg false [p (.load (some 4) (.v 2)),
 p (.call true (.k (.fn 17 [] [])) [.r 0]),
 p (.un .not (.r 0))] [(2,.v 2),(3,.v 3),(4,.v 4),(5,.v 5),(11,.r 0)])
 (.cond (.v 11)
 (.seq
 (.reg true [p (.load (some 4) (.v 2)),
 p (.call true (.k (.fn 37 [] [])) [.k (.int .i64 1)]),
 p (.store (some 4) (.v 4) (.r 1)),
 p (.store (some 6) (.v 5) (.r 1))] [(4,.v 4),(5,.v 5)])
 .ret)
 .skip))
 (.seq
 (.reg false [p (.load (some 4) (.v 2)),
 p (.load (some 8) (.v 3)),
 p (.build [.int .i64 0,.int .i64 0,.fsl .nil 2 [],.fsl .nil 5 [],.int .i64 0,.str [],.str [],.int .i64 0,.int .i64 0,.str [],.str [],.fsl .nil 4 []] [(0,4,.r 1),(4,8,.r 0)]),
 p (.box 12 (.r 0)),
 p (.mov (.r 0))] [(2,.v 2),(4,.v 4),(5,.v 5),(6,.r 0)])
 (.seq
 (.reg false [p (.mov (.v 6)),
 p (.call false (.k (.fn 38 [] [])) [.r 0]),
 p (.mov (.r 0))] [(2,.v 2),(4,.v 4),(5,.v 5),(6,.v 6),(7,.r 0)])
 (.seq
 (.seq
 (.reg false [p (.mov (.v 7)),
 p (.eqn false .f (.r 0))] [(2,.v 2),(4,.v 4),(5,.v 5),(6,.v 6),(7,.v 7),(21,.r 0)])
 (.cond (.v 21)
 (.seq
 (.reg true [p (.load (some 4) (.v 2)),
 p (.call true (.k (.fn 37 [] [])) [.k (.int .i64 230)]),
 p (.store (some 4) (.v 4) (.r 1)),
 p (.store (some 6) (.v 5) (.r 1))] [(4,.v 4),(5,.v 5)])
 .ret)
 .skip))
 (.seq
 (.reg false [p (.mov (.v 7)),
 p (.call false (.r 0) []),
 p (.alloc 6 (.agg [.int .i64 0,.str [],.int .i64 0,.int .i64 0,.int .i64 0,.fsl .nil 5 []])),
 p (.store (some 6) (.r 0) (.r 1))] [(2,.v 2),(4,.v 4),(5,.v 5),(6,.v 6),(8,.r 1)])
 (.seq
 (.seq
 (.reg false [p (.fad 0 (.v 8)),
 p (.load (none) (.r 0)),
 p (.bin .neq (.r 0) (.k (.int .i64 0)))] [(2,.v 2),(4,.v 4),(5,.v 5),(6,.v 6),(8,.v 8),(28,.r 0)])
 (.cond (.v 28)
 (.seq
 (.reg true [p (.load (some 4) (.v 2)),
 p (.load (some 6) (.v 8)),
 ⟨.store (some 4) (.v 4) (.r 1),none,[0]⟩,
 p (.store (some 6) (.v 5) (.r 1))] [(4,.v 4),(5,.v 5)])
 .ret)
 .skip))
 (.seq
 (.reg true [p (.mov (.v 6)),
 p (.nck (.r 0)),
 p (.fad 0 (.r 0)),
 p (.load (some 4) (.r 0)),
 p (.load (some 6) (.v 8)),
 ⟨.store (some 4) (.v 4) (.r 1),none,[0]⟩,
 p (.store (some 6) (.v 5) (.r 1))] [(4,.v 4),(5,.v 5)])
 .ret))))))))
def r14:List RV:=[.c 4 (some 4),.c 5 (some 6)]
theorem en14:EnP Tryz.prog 14 36 c14 r14:=a0x (by kernel_rfl) Tryz.func14 (by kernel_rfl) ⟨_,rfl,by kernel_rfl,by kernel_rfl⟩
def c23:C :=
  (.seq
 (.reg false [p (.alloc 4 (.agg [.int .i64 0,.int .i64 0,.fsl .nil 2 [],.fsl .nil 5 []])),
 p (.mov (.k (.fsl .nil 6 [])))] [(0,.v 0),(2,.r 1)])
 (.seq
 (.reg false [p (.alloc 4 (.agg [.int .i64 0,.int .i64 0,.fsl .nil 2 [],.fsl .nil 5 []]))] [(0,.v 0),(2,.v 2),(4,.r 0)])
 (.seq
 (.reg false [p (.mov (.k (.fsl .nil 6 [])))] [(0,.v 0),(2,.v 2),(4,.v 4),(5,.r 0)])
 (.seq
 (.seq
 (.reg false [p (.mov (.v 0)),
 p (.len false (.r 0)),
 p (.mov (.k (.int .i64 0)))] [(2,.v 2),(4,.v 4),(5,.v 5),(9,.r 2),(10,.r 1),(11,.r 0)])
 (.block 0
 (.loop
 (.seq
 (.reg false [p (.bin .lss (.v 11) (.v 10))] [(2,.v 2),(4,.v 4),(5,.v 5),(9,.v 9),(10,.v 10),(11,.v 11),(12,.r 0)])
 (.seq
 (.cond (.v 12)
 .skip
 (.exit 0))
 (.seq
 (.block 1
 (.seq
 (.reg false [p (.iad 8 (.v 9) (.v 11)),
 p (.load (some 8) (.r 0)),
 p (.alloc 8 (.agg [.int .i64 0,.str [],.str [],.int .i64 0,.int .i64 0,.str [],.str [],.fsl .nil 4 []])),
 p (.store (some 8) (.r 0) (.r 1))] [(2,.v 2),(4,.v 4),(5,.v 5),(7,.r 1),(9,.v 9),(10,.v 10),(11,.v 11)])
 (.seq
 (.reg false [p (.alloc 6 (.agg [.int .i64 0,.str [],.int .i64 0,.int .i64 0,.int .i64 0,.fsl .nil 5 []]))] [(2,.v 2),(4,.v 4),(5,.v 5),(7,.v 7),(8,.r 0),(9,.v 9),(10,.v 10),(11,.v 11)])
 (.seq
 (.reg false [p (.load (some 4) (.v 4)),
 p (.load (some 8) (.v 7)),
 p (.call true (.k (.fn 14 [] [])) [.r 1,.r 0]),
 p (.mov (.r 0)),
 p (.ext (.r 0) 0),
 p (.ext (.r 1) 1),
 p (.store (some 4) (.v 4) (.r 1)),
 p (.store (some 6) (.v 8) (.r 1))] [(2,.v 2),(4,.v 4),(5,.v 5),(8,.v 8),(9,.v 9),(10,.v 10),(11,.v 11)])
 (.reg false [p (.mov (.v 5)),
 p (.load (some 6) (.v 8)),
 p (.bsl 6 [.r 0]),
 p (.app 6 72 (.r 2) (.r 0)),
 p (.mov (.r 0))] [(2,.v 2),(4,.v 4),(5,.r 0),(9,.v 9),(10,.v 10),(11,.v 11)])))))
 (.reg false [p (.bin .add (.v 11) (.k (.int .i64 1))),
 p (.mov (.r 0))] [(2,.v 2),(4,.v 4),(5,.v 5),(9,.v 9),(10,.v 10),(11,.r 0)])))))))
 (.frz
 (.seq
 (.reg false [p (.load (some 4) (.v 4)),
 p (.mov (.v 5)),
 p (.store (some 4) (.v 2) (.r 1)),
 p (.mov (.r 1))] [(2,.v 2),(3,.r 0)])
 .ret))))))
def r23:List RV:=[.c 2 (some 4),.t 3]
theorem en23:EnP Tryz.prog 23 28 c23 r23:=a0x (by kernel_rfl) Tryz.func23 (by kernel_rfl) ⟨_,rfl,by kernel_rfl,by kernel_rfl⟩
section
def drU (w:Wd) (v1 v2:V) (c:Cmd):V:=.agg [.int .i64 w.now,.int .i64 w.token,v1,v2,.int .i64 c.kind,.str c.key,.str c.name,.int .i64 c.token,.int .i64 c.time,.str c.text,.str c.dag.name,a0j c.dag.tasks]
def drV (w:Wd) (c:Cmd):V:=drU w (.fsl .loose 2 (mv dagV w.dags)) (.fsl .loose 5 (mv rnV w.runs)) c
theorem c2p (w:Wd) (c:Cmd):(drV w c).closed=true:=by simp [drV,drU,V.closed,a0b,a0a a0i,a0a a0g,a0o]
theorem b5c (w:Wd) (c:Cmd) (n:Nat):(drV w c).low n=true:=V.low_closed _ (c2p w c)
theorem c1i:CloneOK Tryz.prog 148 2 40:=b3p ena148 (by decide)
theorem b4c:CloneOK Tryz.prog 152 5 88:=b3p ena152 (by decide)
theorem d0j (a b:Rn):setC (some 5) 0 (rnV a) (rnV b)=some (rnV b):=rfl
theorem d9p {rvs:List RV} {r:V} {σ:Sg} {H:Hp} {l:List V} {m0:Hm} {n k:Nat} {ds:List (Nat×Option Ob)} (hl:resE σ H.m rvs=some l) (hr:pack l=r∨b1t (pack l)=r∨lo (pack l)=r) (hk:H.n≤n+k) (hm:∀ id,appd ds m0 id=none∨appd ds m0 id=H.m id):FinA rvs m0 n r ds k .norm σ H :=
  ⟨.inl rfl,⟨l,hl,hr⟩,hk,hm⟩
set_option maxHeartbeats 1000000 in
theorem c4k (w:Wd) (c:Cmd) (i:Nat) (r:Rn) (H:Hp) (id:Nat) (hid:id < H.n) (ho:H.m id=some (.arr 12 [drV w c])) (hi:i < w.runs.length) (hn:w.runs.length≤1000) :
    ACall Tryz.prog 154 [.ptr id 0 0,.int .i64 (i:Int),rnV r] H [id] (.tup []) [(id,some (.arr 12 [drU w (.fsl .loose 2 (mv dagV w.dags)) (.sl (H.n+1) 0 w.runs.length) c])),(H.n+1,some (.arr 5 (mv rnV (w.runs.set i r))))] 2:=by
  refine ena154 (by simp) (by simp [lowL,V.low,hid]; exact V.low_closed _ (a0g r)) (by simp [hid,ho,Ob.low,lowL,b5c]) (by simp) ?_
  have hoo:only [id] H.m id=some (.arr 12 [drV w c]):=by simp [only,ho]
  unfold drV drU at hoo
  simp (maxSteps:=1000000) (disch:=omega) only [rg,gD,simprocAttr,c154,hoo]
  refine ⟨⟨rfl,rfl⟩, ?_⟩
  have l1:¬ id=H.n:=by omega
  have l2:¬ id=H.n+1:=by omega
  refine b4c.row (by rw [a0k]; omega) (a0a a0g) (by rw [a0k]; omega) ?_
  simp (maxSteps:=1000000) (disch:=omega) only [rg,gD,simprocAttr,hoo,a0k,a0m hi,a1e,d0j,l1,l2,show (i:Int) < (w.runs.length:Int) by omega]
  refine d9p (l:=[]) rfl (.inl rfl) (by simp) (fun j => ?_)
  simp only [appd,upd]
  by_cases h1:j=H.n+1
  · rw [if_pos h1,if_pos h1]; right; simp [mv,List.map_set]
  · rw [if_neg h1,if_neg h1]
    by_cases h2:j=id
    · rw [if_pos h2,if_pos h2]; right; rfl
    · rw [if_neg h2]; left; simp [only,h2]
theorem d6t {id:Nat} {m0:Hm} {m:Hm} {o:Ob} (h:m id=some o) (j:Nat):appd [(id,some o)] (only [id] m0) j=none∨appd [(id,some o)] (only [id] m0) j=m j:=by
  simp only [appd,upd]
  by_cases h2:j=id
  · rw [if_pos h2]; right; rw [h2,h]
  · rw [if_neg h2]; left; simp [only,h2]
theorem a1s (e:Int):PCall Tryz.prog 37 [.int .i64 e] (ansV (whyA e)):=by
  refine en37 (by simp) (by simp [a0b,V.closed]) ?_
  simp (maxSteps:=1000000) (disch:=omega) only [rg,gD,simprocAttr,c37,ansV,whyA,a0h]
  (refine a0f rfl ?_ ?_<;>simp [pack,lo,loL,V.closed,a0b,a0a,ansV,whyA,a0h,a0v])
abbrev DoC (f:Nat) (w:Wd) (c:Cmd) (p:Wd×Ans):Prop:=∀ (H:Hp) (id:Nat),id < H.n→H.m id=some (.arr 12 [drV w c])→∃ k,ACall Tryz.prog f [.ptr id 0 0] H [id] (ansV p.2) [(id,some (.arr 12 [drV p.1 c]))] k
theorem mkDo {f n k:Nat} {cc:C} {rvs:List RV} {w:Wd} {c:Cmd} {p:Wd×Ans} (he:EnA Tryz.prog f n cc rvs) (hn:1≤n)
    (h:∀ (id h:Nat) (m:Hm),id < h→m id=some (.arr 12 [V.agg [.int .i64 w.now,.int .i64 w.token,.fsl .loose 2 (mv dagV w.dags),.fsl .loose 5 (mv rnV w.runs),.int .i64 c.kind,.str c.key,.str c.name,.int .i64 c.token,.int .i64 c.time,.str c.text,.str c.dag.name,a0j c.dag.tasks]]) →
      (∀ (σ:Sg) (H':Hp) (r:V),resE σ H'.m rvs=some [r]→lo r=ansV p.2→H'.n≤h+k→H'.m id=some (.arr 12 [drV p.1 c])→FinA rvs (only [id] m) h (ansV p.2) [(id,some (.arr 12 [drV p.1 c]))] k .ret σ H') →
      evX Tryz.prog cc (a8h 0 [.ptr id 0 0]) ⟨h,only [id] m⟩ (FinA rvs (only [id] m) h (ansV p.2) [(id,some (.arr 12 [drV p.1 c]))] k)):DoC f w c p:=by
  intro H id hid ho
  refine ⟨k,he (by simpa using hn) (by simp [lowL,V.low,hid]) (by simp [hid,ho,Ob.low,lowL,b5c]) (by simp) ?_⟩
  exact h id H.n H.m hid ho fun σ H' r h1 h2 h3 h4 => a1v (l:=[r]) h1 (.inr (.inr h2)) h3 (d6t h4)
theorem d5q (w:Wd) (c:Cmd):DoC 98 w c (a6f w c.time):=by
  refine mkDo (k:=1) ena98 (by simp) fun id h m hid ho fin => ?_
  have hoo:=(show only [id] m id=m id by simp [only]).trans ho
  have l1:¬ id=h:=by omega
  have l2:¬ h=id:=by omega
  by_cases c1:c.time < 0
  · have hres:a6f w c.time=(w,whyA 1):=by unfold a6f; rw [if_pos (.inl c1)]
    rw [hres] at fin ⊢
    simp (maxSteps:=1000000) (disch:=omega) only [rg,gD,simprocAttr,c98,hoo,c1,l1]
    refine ⟨_,a1s 1, ?_⟩
    simp (maxSteps:=1000000) (disch:=omega) only [rg,gD,simprocAttr,ansV,hoo,l1]
    refine fin _ _ _ (by simp (disch:=omega) only [r98,resE,find,a2i,a0d,a0c,reduceIte,Nat.reduceEqDiff]; rfl) (by simp [lo,loL,ansV,whyA,a0h,a0v,a0l a0n]) (by simp) ?_
    simp (disch:=omega) only [a0c,hoo]; rfl
  by_cases c2:MT < c.time
  · have hres:a6f w c.time=(w,whyA 1):=by unfold a6f; rw [if_pos (.inr c2)]
    have c2':=c2
    unfold MT at c2'
    rw [hres] at fin ⊢
    simp (maxSteps:=1000000) (disch:=omega) only [rg,gD,simprocAttr,c98,hoo,c1,c2',l1]
    refine ⟨_,a1s 1, ?_⟩
    simp (maxSteps:=1000000) (disch:=omega) only [rg,gD,simprocAttr,ansV,hoo,l1]
    refine fin _ _ _ (by simp (disch:=omega) only [r98,resE,find,a2i,a0d,a0c,reduceIte,Nat.reduceEqDiff]; rfl) (by simp [lo,loL,ansV,whyA,a0h,a0v,a0l a0n]) (by simp) ?_
    simp (disch:=omega) only [a0c,hoo]; rfl
  have hres:a6f w c.time=({ w with now:=max w.now c.time },whyA 0):=by rw [a6f,if_neg (fun h => h.elim c1 c2)]
  unfold MT at c2
  rw [hres] at fin ⊢
  simp (maxSteps:=1000000) (disch:=omega) only [rg,gD,simprocAttr,c98,hoo,c1,c2,l1]
  refine fin _ _ _ (by simp (disch:=omega) only [r98,resE,find,a2i,a0d,a0c,reduceIte,Nat.reduceEqDiff]; rfl) (by simp [lo,loL,ansV,whyA,a0h,a0v,a0l a0n]) (by simp) ?_
  simp (disch:=omega) only [a0c,a0d]; rfl
theorem d4i (w:Wd) (c:Cmd):DoC 100 w c (w,whyA 0):=by
  refine mkDo (k:=1) ena100 (by simp) fun id h m hid ho fin => ?_
  have hoo:=(show only [id] m id=m id by simp [only]).trans ho
  have l1:¬ id=h:=by omega
  simp (maxSteps:=1000000) (disch:=omega) only [rg,gD,simprocAttr,c100,hoo,l1]
  refine fin _ _ _ (by simp (disch:=omega) only [r100,resE,find,a2i,a0d,a0c,reduceIte,Nat.reduceEqDiff]; rfl) (by simp [lo,loL,ansV,whyA,a0h,a0v,a0l a0n]) (by simp) ?_
  simp (disch:=omega) only [a0c,hoo]; rfl
end
section
open Classical in
set_option maxHeartbeats 1000000 in
theorem c8q (w:Wd) (c:Cmd) (ok:WdOk w) (hw:WR w):DoC 99 w c (a5n w c.key):=by
  have hnr:=ok.runs
  have hwr:=a7s w
  have hfi:=b2z c.key w.runs (by omega) hw.rruns
  unfold wdV at hwr
  unfold a5z at hwr hfi
  refine mkDo (k:=2) ena99 (by simp) fun id h m hid ho fin => ?_
  have hoo:=(show only [id] m id=m id by simp [only]).trans ho
  have l1:¬ id=h:=by omega
  have l3:¬ id=h+1:=by omega
  simp (maxSteps:=1000000) (disch:=omega) only [rg,gD,simprocAttr,c99,hoo,l1]
  refine ⟨_,hwr, ?_⟩
  simp (maxSteps:=1000000) (disch:=omega) only [rg,gD,simprocAttr,hoo,l1]
  refine ⟨_,hfi, ?_⟩
  by_cases c1:c.key∈a1k w.runs
  case neg =>
    have hres:a5n w c.key=(w,whyA 190):=by unfold a5n; rw [if_pos c1]
    rw [hres] at fin ⊢
    simp (maxSteps:=1000000) (disch:=omega) only [rg,gD,simprocAttr,decide_eq_false c1]
    refine ⟨_,a1s 190, ?_⟩
    simp (maxSteps:=1000000) (disch:=omega) only [rg,gD,simprocAttr,ansV,hoo,l1]
    refine fin _ _ _ (by simp (disch:=omega) only [r99,resE,find,a2i,a0d,a0c,reduceIte,Nat.reduceEqDiff]; rfl) (by simp [lo,loL,ansV,whyA,a0h,a0v,a0l a0n]) (by simp) ?_
    simp (disch:=omega) only [a0c,hoo]; rfl
  obtain ⟨hi,hk⟩:=a6j hw.rruns c1
  have hse:=a7u w.runs[lbR c.key w.runs] w.now (ok.run _ (List.getElem_mem hi)) (hw.runs _ (List.getElem_mem hi)).2
  have hres:a5n w c.key=(w,⟨0,(a1m w.now w.runs[lbR c.key w.runs]).key,0,0,(a1m w.now w.runs[lbR c.key w.runs]).is,(a1m w.now w.runs[lbR c.key w.runs]).states⟩):=by
    unfold a5n; rw [if_neg (fun e => e c1),a2k hi]
  rw [hres] at fin ⊢
  change PCall _ _ _ _ at hfi
  have hlb:lbS c.key (a1k w.runs)=lbR c.key w.runs:=rfl
  rw [hlb]
  generalize a1m w.now w.runs[lbR c.key w.runs]=z at hse fin ⊢
  generalize lbR c.key w.runs=i at hi hk hse fin ⊢
  simp (maxSteps:=1000000) (disch:=omega) only [rg,gD,simprocAttr,decide_eq_true c1,hoo,l1,l3,a0m hi,a1e,Int.toNat_natCast,show (i:Int) < (w.runs.length:Int) by omega]
  refine ⟨_,hse, ?_⟩
  simp (maxSteps:=1000000) (disch:=omega) only [rg,gD,simprocAttr,hoo,l1,l3,a2a,rnV,a0h]
  refine ⟨by simp [a1h,disj,nthL]<;>omega, ?_⟩
  refine fin _ _ _ (by simp (disch:=omega) only [r99,resE,find,a2i,a0d,a0c,reduceIte,Nat.reduceEqDiff]; rfl) (by simp [lo,loL,ansV,whyA,a0h,a0v,a0l a0n]) (by simp) ?_
  simp (disch:=omega) only [a0c,hoo]; rfl
theorem d8n {id h k p q sz:Nat} {m:Hm} {H':Hp} {pre post rows:List V} {a:V} {w':Wd} {c:Cmd} {ans:Ans}
    (hq:H'.m q=some (.arr sz rows)) (hrows:a0b rows=true) (hid:H'.m id=some (.arr 12 [.agg (pre++.sl q 0 rows.length::post)])) (hpre:a0b pre=true) (hpost:a0b post=true)
    (hp:H'.m p=some (.arr 6 [a])) (ha:a.closed=true) (h1:id≠q) (h2:p≠q) (h3:p≠id) (hk:H'.n≤h+k) (hlo:lo (.agg (pre++.fsl .loose sz rows::post))=drV w' c) (hla:lo a=ansV ans) (hg:getC (some 6) 0 a=some a) {Q:QA}
    (hQ:∀ σ H,FinA [.c 2 (some 6)] (only [id] m) h (ansV ans) [(id,some (.arr 12 [drV w' c]))] k .ret σ H→Q .ret σ H) :
    evX Tryz.prog (.frz .ret) [(2,.ptr p 0 0)] H' Q:=by
  refine d1f [q] [id] ?_
  have hs:∀ j,snap (j+1) (only [q] H'.m) (.sl q 0 rows.length)=some (.fsl .loose sz rows):=fun j => by
    have:mapO (snap j (only [q] H'.m)) rows=some rows:=a0z hrows
    have e:only [q] H'.m q=some (.arr sz rows):=by simp [only,hq]
    rw [snap,if_neg (by simp [V.closed])]
    simp [e,this]
  have e1:=d1c (fz:=[q]) (ids:=[id]) hid (by simp [h1]) (by simp)
  simp only [List.map_cons,List.map_nil,a9m hs hpre hpost,loL,hlo] at e1
  have e2:=d1z (fz:=[q]) (ids:=[id]) hp (by simp [a0b,ha]) (by simp [h2]) (by simp [h3])
  simp only [vr,b0l]
  simp (maxSteps:=1000000) (disch:=omega) only [rg,gD,simprocAttr]
  refine hQ _ _ (a1v (l:=[a]) ?_ (.inr (.inr hla)) hk (d6t e1))
  simp [resE,find,a2i,e2,hg]
end
section
theorem c1w (w:Wd):a0b [.int .i64 w.now,.int .i64 w.token,.fsl .loose 2 (mv dagV w.dags)]=true:=by simp [a0b,V.closed,a0a a0i]
theorem b2m (c:Cmd):a0b [.int .i64 c.kind,.str c.key,.str c.name,.int .i64 c.token,.int .i64 c.time,.str c.text,.str c.dag.name,a0j c.dag.tasks]=true:=by simp [a0b,V.closed,a0o]
theorem b0z {id h k p q:Nat} {m:Hm} {H':Hp} {a:V} {w w':Wd} {c:Cmd} {ans:Ans} {rs:List Rn} {t:Int} (hw':w'={ w with runs:=rs,token:=t })
    (hq:H'.m q=some (.arr 5 (mv rnV rs))) (hid:H'.m id=some (.arr 12 [drU { w with token:=t } (.fsl .loose 2 (mv dagV w.dags)) (.sl q 0 rs.length) c]))
    (hp:H'.m p=some (.arr 6 [a])) (ha:a.closed=true) (h1:id≠q) (h2:p≠q) (h3:p≠id) (hk:H'.n≤h+k) (hla:lo a=ansV ans) (hg:getC (some 6) 0 a=some a) {Q:QA}
    (hQ:∀ σ H,FinA [.c 2 (some 6)] (only [id] m) h (ansV ans) [(id,some (.arr 12 [drV w' c]))] k .ret σ H→Q .ret σ H) :
    evX Tryz.prog (.frz .ret) [(2,.ptr p 0 0)] H' Q:=by
  subst hw'
  refine d8n (sz:=5) (q:=q) (pre:=[.int .i64 w.now,.int .i64 t,.fsl .loose 2 (mv dagV w.dags)]) (post:=[.int .i64 c.kind,.str c.key,.str c.name,.int .i64 c.token,.int .i64 c.time,.str c.text,.str c.dag.name,a0j c.dag.tasks]) (rows:=mv rnV rs) hq (a0a a0g) (by rw [a0k]; exact hid) (by simp [a0b,V.closed,a0a a0i]) (b2m c) hp ha h1 h2 h3 hk ?_ hla hg hQ
  simp [lo,loL,drV,drU,a0l a0y,a0l a1i,a1a]
open Classical in
set_option maxHeartbeats 1000000 in
theorem c7g (w:Wd) (c:Cmd) (ok:WdOk w) (hw:WR w):DoC 97 w c (a3n w c.key):=by
  have hnr:=ok.runs
  have hwr:=a7s w
  have hfi:=b2z c.key w.runs (by omega) hw.rruns
  unfold wdV at hwr
  unfold a5z at hwr hfi
  refine mkDo (k:=5) ena97 (by simp) fun id h m hid ho fin => ?_
  have hoo:=(show only [id] m id=m id by simp [only]).trans ho
  have l1:¬ id=h:=by omega
  have l3:¬ id=h+1:=by omega
  simp (maxSteps:=1000000) (disch:=omega) only [rg,gD,simprocAttr,c97,hoo,l1]
  refine ⟨_,hwr, ?_⟩
  simp (maxSteps:=1000000) (disch:=omega) only [rg,gD,simprocAttr,hoo,l1]
  refine ⟨_,hfi, ?_⟩
  by_cases c1:c.key∈a1k w.runs
  case neg =>
    have hres:a3n w c.key=(w,whyA 190):=by unfold a3n; rw [if_pos c1]
    rw [hres] at fin ⊢
    simp (maxSteps:=1000000) (disch:=omega) only [rg,gD,simprocAttr,decide_eq_false c1]
    refine ⟨_,a1s 190, ?_⟩
    simp (maxSteps:=1000000) (disch:=omega) only [rg,gD,simprocAttr,ansV,hoo,l1]
    refine a0s ?_
    simp (maxSteps:=1000000) (disch:=omega) only [rg,gD,simprocAttr]
    refine fin _ _ _ (by simp (disch:=omega) only [r97,resE,find,a2i,a0d,a0c,reduceIte,Nat.reduceEqDiff]; rfl) (by simp [lo,loL,ansV,whyA,a0h,a0v,a0l a0n]) (by simp) ?_
    simp (disch:=omega) only [a0c,hoo]; rfl
  obtain ⟨hi,hk⟩:=a6j hw.rruns c1
  have hse:=c2m w.runs[lbR c.key w.runs] w.now (ok.run _ (List.getElem_mem hi)) (hw.runs _ (List.getElem_mem hi)).2
  have hres:a3n w c.key=if (a2f w.now w.runs[lbR c.key w.runs]).2≠0 then (w,whyA (a2f w.now w.runs[lbR c.key w.runs]).2) else ({ w with runs:=w.runs.set (lbR c.key w.runs) (a2f w.now w.runs[lbR c.key w.runs]).1 },whyA 0):=by
    unfold a3n; rw [if_neg (fun e => e c1),a2k hi]
  rw [hres] at fin ⊢
  have hlb:lbS c.key (a1k w.runs)=lbR c.key w.runs:=rfl
  rw [hlb]
  generalize a2f w.now w.runs[lbR c.key w.runs]=z at hse fin ⊢
  generalize lbR c.key w.runs=i at hi hk hse fin ⊢
  unfold rnE at hse
  simp (maxSteps:=1000000) (disch:=omega) only [rg,gD,simprocAttr,decide_eq_true c1,hoo,l1,l3,a0m hi,a1e,Int.toNat_natCast,show (i:Int) < (w.runs.length:Int) by omega]
  refine ⟨_,hse, ?_⟩
  by_cases z0:z.2=0
  case neg =>
    rw [if_pos z0] at fin ⊢
    simp (maxSteps:=1000000) (disch:=omega) only [rg,gD,simprocAttr,hoo,l1,l3,a2a,eq_false z0]
    refine ⟨by simp [a1h,disj,nthL]<;>omega,_,a1s z.2, ?_⟩
    simp (maxSteps:=1000000) (disch:=omega) only [rg,gD,simprocAttr,ansV,hoo,l1,l3]
    refine a0s ?_
    simp (maxSteps:=1000000) (disch:=omega) only [rg,gD,simprocAttr]
    refine fin _ _ _ (by simp (disch:=omega) only [r97,resE,find,a2i,a0d,a0c,reduceIte,Nat.reduceEqDiff]; rfl) (by simp [lo,loL,ansV,whyA,a0h,a0v,a0l a0n]) (by simp) ?_
    simp (disch:=omega) only [a0c,hoo]; rfl
  rw [if_neg (by omega)] at fin ⊢
  simp (maxSteps:=1000000) (disch:=omega) only [rg,gD,simprocAttr,hoo,l1,l3,a2a,eq_true z0,a1e]
  refine ⟨by simp [a1h,disj,nthL]<;>omega, ?_⟩
  refine ⟨_,_,_,_,c4k w c i z.1 _ id (by simp only []; omega) (by simp (disch:=omega) only [a0c,hoo]; rfl) hi hnr, ?_⟩
  simp (maxSteps:=1000000) (disch:=omega) only [rg,gD,simprocAttr,hoo,l1,l3]
  refine b0z (a:=V.agg [V.int .i64 0,V.str [],V.int .i64 0,V.int .i64 0,V.int .i64 0,V.fsl .nil 5 []]) (q:=h+2+1) (p:=h) (w:=w) (rs:=w.runs.set i z.1) (t:=w.token) rfl (by simp (disch:=omega) only [a0d,a0c,wo_0,wo_1,wo_2]) (by rw [List.length_set]; exact (by simp (disch:=omega) only [a0d,a0c,wo_0,wo_1,wo_2])) (by simp (disch:=omega) only [a0d,a0c,wo_0,wo_1,wo_2]) rfl (by omega) (by omega) (by omega) (by simp only []; omega) (by simp [lo,loL,ansV,whyA,a0h,a0v]) rfl fun _ _ h => h
theorem c0n (r:Rn):getC none 0 (rnV r)=some (.str r.key):=rfl
open Classical in
set_option maxHeartbeats 1000000 in
theorem d2w (w:Wd) (c:Cmd) (ok:WdOk w) (hw:WR w):DoC 93 w c (a5s w):=by
  have hnr:=ok.runs
  refine mkDo (k:=w.runs.length*2+5) ena93 (by simp) fun id h m hid ho fin => ?_
  have hoo:=(show only [id] m id=m id by simp [only]).trans ho
  have l1:¬ id=h:=by omega
  by_cases c0:MT≤w.token
  · have hres:a5s w=(w,whyA 192):=by unfold a5s; rw [if_pos c0]
    have c0':=c0
    unfold MT at c0'
    rw [hres] at fin ⊢
    simp (maxSteps:=1000000) (disch:=omega) only [rg,gD,simprocAttr,c93,hoo,l1,c0',ge_iff_le]
    refine ⟨_,a1s 192, ?_⟩
    simp (maxSteps:=1000000) (disch:=omega) only [rg,gD,simprocAttr,ansV,hoo,l1]
    refine a0s ?_
    simp (maxSteps:=1000000) (disch:=omega) only [rg,gD,simprocAttr]
    refine fin _ _ _ (by simp (disch:=omega) only [r93,resE,find,a2i,a0d,a0c,reduceIte,Nat.reduceEqDiff]; rfl) (by simp [lo,loL,ansV,whyA,a0h,a0v,a0l a0n]) (by simp) ?_
    simp (disch:=omega) only [a0c,hoo]; rfl
  have c0':=c0
  unfold MT at c0'
  have hp0:a5s w=match fndS (a5v w.now (w.token+1)) 0 w.runs with
      | none => (w,whyA 192)
      | some i => ({ w with token:=w.token+1,runs:=w.runs.set i (a3a w.now (w.token+1) (w.runs.getD i zR)).1 },⟨0,(w.runs.getD i zR).key,(a3a w.now (w.token+1) (w.runs.getD i zR)).2.1,w.token+1,0,[]⟩):=by
    rw [a5s,if_neg c0]<;>(cases fndS (a5v w.now (w.token+1)) 0 w.runs<;>rfl)
  have ht:=hw.token
  unfold MT at ht
  simp (maxSteps:=1000000) (disch:=omega) only [rg,gD,simprocAttr,c93,hoo,l1,c0',ge_iff_le,a0k]
  refine x_it w.runs.length (fun k σ H => (h+1≤H.n∧H.n≤h+1+k*2)∧H.m id=only [id] m id∧H.m h=some (.arr 6 [V.agg [V.int .i64 0,V.str [],V.int .i64 0,V.int .i64 0,V.int .i64 0,V.fsl .nil 5 []]]) ∧
    fndS (a5v w.now (w.token+1)) 0 w.runs=fndS (a5v w.now (w.token+1)) k (w.runs.drop k) ∧
    σ=[(0,.ptr id 0 0),(2,.ptr h 0 0),(19,.fsl .loose 5 (mv rnV w.runs)),(20,.int .i64 (w.runs.length:Int)),(21,.int .i64 (k:Int))]) ⟨⟨Nat.le_refl _,by simp⟩,(by simp (disch:=omega) only [a0d,a0c,wo_0,wo_1,wo_2]),(by simp (disch:=omega) only [a0d,a0c,wo_0,wo_1,wo_2]),rfl,rfl⟩ ?_
  rintro T k σ ⟨n,m1⟩ hkk ⟨⟨hn,hn2⟩,e0,e1,hf,rfl⟩ hN hX hR
  simp only at hn hn2 e0 e1
  rw [hoo] at e0
  by_cases hk:k < w.runs.length
  case neg =>
    obtain rfl:k=w.runs.length:=by omega
    rw [List.drop_length] at hf
    rw [hf] at hp0
    have hres:a5s w=(w,whyA 192):=hp0
    rw [hres] at fin
    simp (maxSteps:=1000000) (disch:=omega) only [rg,gD,simprocAttr,Int.lt_irrefl]
    refine hX _ _ _ ?_
    rw [hres]
    simp (maxSteps:=1000000) (disch:=omega) only [rg,gD,simprocAttr]
    refine a0s ?_
    simp (maxSteps:=1000000) (disch:=omega) only [rg,gD,simprocAttr,e0]
    refine ⟨_,a1s 192, ?_⟩
    simp (maxSteps:=1000000) (disch:=omega) only [rg,gD,simprocAttr,ansV,e0,e1]
    refine a0s ?_
    simp (maxSteps:=1000000) (disch:=omega) only [rg,gD,simprocAttr]
    refine fin _ _ _ (by simp (disch:=omega) only [r93,resE,find,a2i,a0d,a0c,reduceIte,Nat.reduceEqDiff]; rfl) (by simp [lo,loL,ansV,whyA,a0h,a0v,a0l a0n]) (by simp; omega) ?_
    simp (disch:=omega) only [a0c,e0]; rfl
  rw [a3o hk] at hf
  have hrr:=(hw.runs _ (List.getElem_mem hk)).2
  have hle:=c4c w.runs[k] w.now (w.token+1) (ok.run _ (List.getElem_mem hk)) hrr
  have w1:IntKind.wrap .i64 (w.token+1)=w.token+1:=a7p (by omega) (by omega)
  have l2:¬ id=n:=by omega
  have l3:¬ id=n+1:=by omega
  have l4:¬ h=n:=by omega
  have l5:¬ h=n+1:=by omega
  have l6:¬ h=id:=by omega
  have e0':=e0
  have hlp:a5v w.now (w.token+1) w.runs[k]=decide ((a3a w.now (w.token+1) w.runs[k]).2.2=0):=rfl
  generalize hz:a3a w.now (w.token+1) w.runs[k]=z at hle hlp
  unfold leV at hle
  simp (maxSteps:=1000000) (disch:=omega) only [rg,gD,simprocAttr,show (k:Int) < w.runs.length by omega,a0m hk,a1e,Int.toNat_natCast,a2a,e0,l2,l3,w1]
  refine ⟨_,hle, ?_⟩
  by_cases z0:z.2.2=0
  case neg =>
    rw [hlp,decide_eq_false z0] at hf
    simp (maxSteps:=1000000) (disch:=omega) only [rg,gD,simprocAttr,a2a,eq_false z0]
    refine ⟨by simp [a1h,disj,nthL]<;>omega, ?_⟩
    exact hN _ _ hk ⟨⟨by simp only []; omega,by simp only []; omega⟩,(by simp (disch:=omega) only [a0d,a0c,wo_0,wo_1,wo_2,e0,hoo]),(by simp (disch:=omega) only [a0d,a0c,wo_0,wo_1,wo_2,e1]),by simpa using hf,rfl⟩
  rw [hlp,decide_eq_true z0] at hf
  have hkey:z.1.key=w.runs[k].key:=hz ▸ b6c hrr.len (hz ▸ z0)
  have hres:a5s w=({ w with runs:=w.runs.set k z.1,token:=w.token+1 },⟨0,w.runs[k].key,z.2.1,w.token+1,0,[]⟩):=by
    rw [hp0,hf]; simp only [if_true,a2k hk,hz]
  simp (maxSteps:=1000000) (disch:=omega) only [rg,gD,simprocAttr,a2a,eq_true z0]
  refine ⟨by simp [a1h,disj,nthL]<;>omega, ?_⟩
  simp (maxSteps:=1000000) (disch:=omega) only [rg,gD,simprocAttr,a2a,eq_true z0,a1e]
  refine ⟨_,_,_,_,c4k w c k z.1 _ id (by simp only []; omega) (by simp (disch:=omega) only [a0c,e0]; rfl) hk hnr, ?_⟩
  simp (maxSteps:=1000000) (disch:=omega) only [rg,gD,simprocAttr,e0,e1,l2,l3,l4,l5,l6,drU,w1,c0n]
  refine b0z (id:=id) (w':={ w with runs:=w.runs.set k z.1,token:=w.token+1 }) (ans:=⟨0,w.runs[k].key,z.2.1,w.token+1,0,[]⟩) (k:=w.runs.length*2+5) (m:=m) (h:=h) (c:=c) (a:=V.agg [V.int .i64 0,V.str z.1.key,V.int .i64 z.2.1,V.int .i64 (w.token+1),V.int .i64 0,V.fsl .nil 5 []]) (q:=n+2+1) (p:=h) (w:=w) (rs:=w.runs.set k z.1) (t:=w.token+1) rfl (by simp (disch:=omega) only [a0d,a0c,wo_0,wo_1,wo_2]) (by rw [List.length_set]; exact (by simp (disch:=omega) only [a0d,a0c,wo_0,wo_1,wo_2,drU])) (by simp (disch:=omega) only [a0d,a0c,wo_0,wo_1,wo_2]) rfl (by omega) (by omega) (by omega) (by simp only []; omega) (by simp [lo,loL,ansV,whyA,a0h,a0v,hkey]) rfl fun σ' H' hh => hR _ _ (by rw [hres]; exact hh)
end
section
theorem b6y {P:Program} {f n sz bt:Nat} (hen:EnA P f n (b2q sz bt) [.t 2]) (hn:1≤n) (H:Hp) (st:St):ACall P f [.fsl st sz []] H [] (.fsl .full sz []) [] 0:=by
  have h1:ACall P f [.fsl .nil sz []] H [] (.fsl .nil sz []) [] 0:=by
    refine hen (by simpa using hn) (by simp [lowL,V.low]) (by simp) (by simp) ?_
    simp (maxSteps:=1000000) (disch:=omega) only [rs,gD,simprocAttr,b2q]
    exact a1v (l:=[.fsl .nil sz []]) rfl (.inl rfl) (by simp) (by simp [appd,only])
  have h2:ACall P f [.fsl .nn sz []] H [] (.fsl .full sz []) [] 0:=by
    refine hen (by simpa using hn) (by simp [lowL,V.low]) (by simp) (by simp) ?_
    simp (maxSteps:=1000000) (disch:=omega) only [rs,gD,simprocAttr,b2q,appO]
    exact a1v (l:=[.fsl .full sz []]) rfl (.inl rfl) (by simp) (by simp [appd,only])
  exact ACall.any_st (.first (fun _ => h1.res fun g x => R.nil_full) h2)
theorem c4b {P:Program} {f n sz bt:Nat} {z:V} {ov rot:Nat} (hen:EnA P f n (insC sz bt z ov rot) [.t 6]) (hn:3≤n) (hov:OvOK P ov sz) (h2:2≤sz) (hz:z.size=sz) (hze:z.isEl=true) {v:V} {H:Hp} {id i:Nat} {l:List V} (hl:H.m id=some (.arr sz l)) (hid:id < H.n) (hcl:a0b l=true)
    (hls:∀ u∈l,u.size=sz) (hv:v.size=sz) (hve:v.isEl=true) (hc:v.closed=true) (hb:(l.length+1)*bt≤140737488355328) (hi:i≤l.length) (hbt:1≤bt) :
    ACall P f [.sl id 0 l.length,.int .i64 (i:Int),.fsl .full sz [v]] H [id] (.sl H.n 0 (l.length+1)) [(id,none),(H.n,some (.arr sz (l.take i++v::l.drop i)))] 1:=by
  by_cases h:i < l.length
  · exact d5g hen hn hov h2 hz hze hl hid hcl hls hv hve hc hb h (b7m (H:=H) hen hn hv hc (Nat.le_trans (by simpa using Nat.mul_le_mul_right bt (show 1≤l.length+1 by omega)) hb)).1 hbt
  · obtain rfl:i=l.length:=by omega
    have:=d5o hen hn hl hid hcl hv hc hb
    rwa [List.take_length,List.drop_length]
theorem d4o:OvOK Tryz.prog 196 2:=mkOv (tS:=22) (tR:=4) (e:=28) Tryz.func196 (by kernel_rfl) (by kernel_rfl) (by kernel_rfl) (by kernel_rfl) (by kernel_rfl) (i:=Tryz.t28) (by kernel_rfl) (by decide)
theorem d2i:OvOK Tryz.prog 201 5:=mkOv (tS:=23) (tR:=4) (e:=51) Tryz.func201 (by kernel_rfl) (by kernel_rfl) (by kernel_rfl) (by kernel_rfl) (by kernel_rfl) (i:=Tryz.t51) (by kernel_rfl) (by decide)
theorem c4h {α:Type} {f:α→V} {sz:Nat} (h:∀ a,(f a).size=sz) (l:List α):∀ u∈mv f l,u.size=sz:=by
  intro u hu; obtain ⟨a,_,rfl⟩:=a9d hu; exact h a
theorem c8x {H:Hp} {id i:Nat} {l:List Dag} (d:Dag) (hl:H.m id=some (.arr 2 (mv dagV l))) (hid:id < H.n) (hn:l.length≤1000) (hi:i≤l.length) :
    ACall Tryz.prog 147 [.sl id 0 l.length,.int .i64 (i:Int),.fsl .full 2 [dagV d]] H [id] (.sl H.n 0 (l.length+1)) [(id,none),(H.n,some (.arr 2 (mv dagV (l.take i++d::l.drop i))))] 1:=by
  have:=c4b ena147 (by decide) d4o (by decide) rfl rfl (v:=dagV d) hl hid (a0a a0i) (c4h (f:=dagV) (sz:=2) (fun _ => rfl) l) rfl rfl (a0i d) (by rw [a0k]; omega) (i:=i) (by rw [a0k]; exact hi) (by decide)
  rw [a0k] at this
  have e:List.take i (mv dagV l)++dagV d::List.drop i (mv dagV l)=mv dagV (l.take i++d::l.drop i):=by simp [mv,List.map_take,List.map_drop]
  rwa [e] at this
theorem c8s {H:Hp} {id i:Nat} {l:List Rn} (d:Rn) (hl:H.m id=some (.arr 5 (mv rnV l))) (hid:id < H.n) (hn:l.length≤1000) (hi:i≤l.length) :
    ACall Tryz.prog 151 [.sl id 0 l.length,.int .i64 (i:Int),.fsl .full 5 [rnV d]] H [id] (.sl H.n 0 (l.length+1)) [(id,none),(H.n,some (.arr 5 (mv rnV (l.take i++d::l.drop i))))] 1:=by
  have:=c4b ena151 (by decide) d2i (by decide) rfl rfl (v:=rnV d) hl hid (a0a a0g) (c4h (f:=rnV) (sz:=5) (fun _ => rfl) l) rfl rfl (a0g d) (by rw [a0k]; omega) (i:=i) (by rw [a0k]; exact hi) (by decide)
  rw [a0k] at this
  have e:List.take i (mv rnV l)++rnV d::List.drop i (mv rnV l)=mv rnV (l.take i++d::l.drop i):=by simp [mv,List.map_take,List.map_drop]
  rwa [e] at this
theorem c0x {id h k p q:Nat} {m:Hm} {H':Hp} {a:V} {w w':Wd} {c:Cmd} {ans:Ans} {ds:List Dag} (hw':w'={ w with dags:=ds })
    (hq:H'.m q=some (.arr 2 (mv dagV ds))) (hid:H'.m id=some (.arr 12 [drU w (.sl q 0 ds.length) (.fsl .loose 5 (mv rnV w.runs)) c]))
    (hp:H'.m p=some (.arr 6 [a])) (ha:a.closed=true) (h1:id≠q) (h2:p≠q) (h3:p≠id) (hk:H'.n≤h+k) (hla:lo a=ansV ans) (hg:getC (some 6) 0 a=some a) {Q:QA}
    (hQ:∀ σ H,FinA [.c 2 (some 6)] (only [id] m) h (ansV ans) [(id,some (.arr 12 [drV w' c]))] k .ret σ H→Q .ret σ H) :
    evX Tryz.prog (.frz .ret) [(2,.ptr p 0 0)] H' Q:=by
  subst hw'
  refine d8n (sz:=2) (q:=q) (pre:=[.int .i64 w.now,.int .i64 w.token]) (post:=[.fsl .loose 5 (mv rnV w.runs),.int .i64 c.kind,.str c.key,.str c.name,.int .i64 c.token,.int .i64 c.time,.str c.text,.str c.dag.name,a0j c.dag.tasks]) (rows:=mv dagV ds) hq (a0a a0i) (by rw [a0k]; exact hid) (by simp [a0b,V.closed]) (by simp [a0b,V.closed,a0a a0g,a0o]) hp ha h1 h2 h3 hk ?_ hla hg hQ
  simp [lo,loL,drV,drU,a0l a0y,a0l a1i,a1a]
open Classical in
set_option maxHeartbeats 1000000 in
theorem c8c (w:Wd) (c:Cmd) (ok:WdOk w) (hw:WR w) (hdd:a2w c.dag):DoC 91 w c (a2t w c.dag):=by
  have hnr:=ok.runs
  have hnd:=ok.dags
  have hdr:=a9j c.dag hdd.2 hdd.1
  have hwr:=a9p w
  have hfi:=b2u c.dag.name w.dags (by omega) hw.rdags
  have hdm:=b7q (d:=c.dag) hw.rdags rfl (a6z hw.rdags c.dag.name)
  unfold wdV at hwr
  unfold a6m at hwr hfi
  rw [show dagV c.dag=.agg [.str c.dag.name,a0j c.dag.tasks] from rfl] at hdr
  refine mkDo (k:=5) ena91 (by simp) fun id h m hid ho fin => ?_
  have hoo:=(show only [id] m id=m id by simp [only]).trans ho
  have l1:¬ id=h:=by omega
  have l3:¬ id=h+1:=by omega
  have l4:¬ id=h+2:=by omega
  have l6:¬ h=id:=by omega
  simp (maxSteps:=1000000) (disch:=omega) only [rg,gD,simprocAttr,c91,hoo,l1]
  refine ⟨_,hdr, ?_⟩
  by_cases c1:a0t c.dag=0
  case neg =>
    have hres:a2t w c.dag=(w,whyA (a0t c.dag)):=by unfold a2t; rw [if_pos c1]
    rw [hres] at fin ⊢
    simp (maxSteps:=1000000) (disch:=omega) only [rg,gD,simprocAttr,eq_false c1]
    refine ⟨_,a1s _, ?_⟩
    simp (maxSteps:=1000000) (disch:=omega) only [rg,gD,simprocAttr,ansV,hoo,l1]
    refine a0s ?_
    simp (maxSteps:=1000000) (disch:=omega) only [rg,gD,simprocAttr]
    refine fin _ _ _ (by simp (disch:=omega) only [r91,resE,find,a2i,a0d,a0c,reduceIte,Nat.reduceEqDiff]; rfl) (by simp [lo,loL,ansV,whyA,a0h,a0v,a0l a0n]) (by simp<;>omega) ?_
    simp (disch:=omega) only [a0c,hoo]; rfl
  simp (maxSteps:=1000000) (disch:=omega) only [rg,gD,simprocAttr,eq_true c1,hoo,l1]
  refine ⟨_,hwr, ?_⟩
  simp (maxSteps:=1000000) (disch:=omega) only [rg,gD,simprocAttr,hoo,l1]
  refine ⟨_,hfi, ?_⟩
  have hlb:lbS c.dag.name (a1j w.dags)=lbD c.dag.name w.dags:=rfl
  rw [hlb]
  by_cases c3:c.dag.name∈a1j w.dags
  · obtain ⟨hi,hin⟩:=b3b hw.rdags c3
    have hli:=b4i w.dags[lbD c.dag.name w.dags] c.dag (ok.dag _ (List.getElem_mem hi)) hdd
    have hdm2:c.dag∈w.dags↔w.dags[lbD c.dag.name w.dags]=c.dag:=hdm.trans ⟨fun h => h.2.2,fun e => ⟨c3,hi,e⟩⟩
    have hres:a2t w c.dag=if c.dag∈w.dags then (w,whyA 0) else (w,whyA 161):=by unfold a2t; rw [if_neg (by simp [c1]),if_pos c3]
    rw [hres] at fin ⊢
    generalize lbD c.dag.name w.dags=i at hi hin hli hdm2
    rw [show dagV c.dag=.agg [.str c.dag.name,a0j c.dag.tasks] from rfl] at hli
    simp (maxSteps:=1000000) (disch:=omega) only [rg,gD,simprocAttr,decide_eq_true c3,hoo,l1,show (i:Int) < (w.dags.length:Int) by omega,a0m hi,Int.toNat_natCast,a2l]
    refine ⟨_,hli, ?_⟩
    by_cases c4:w.dags[i]=c.dag
    · rw [if_pos (hdm2.2 c4)] at fin ⊢
      simp (maxSteps:=1000000) (disch:=omega) only [rg,gD,simprocAttr,decide_eq_true c4,l1,hoo]
      refine a0s ?_
      simp (maxSteps:=1000000) (disch:=omega) only [rg,gD,simprocAttr]
      refine fin _ _ _ (by simp (disch:=omega) only [r91,resE,find,a2i,a0d,a0c,reduceIte,Nat.reduceEqDiff]; rfl) (by simp [lo,loL,ansV,whyA,a0h,a0v,a0l a0n]) (by simp<;>omega) ?_
      simp (disch:=omega) only [a0c,hoo]; rfl
    · rw [if_neg (fun e => c4 (hdm2.1 e))] at fin ⊢
      simp (maxSteps:=1000000) (disch:=omega) only [rg,gD,simprocAttr,decide_eq_false c4]
      refine ⟨_,a1s 161, ?_⟩
      simp (maxSteps:=1000000) (disch:=omega) only [rg,gD,simprocAttr,ansV,hoo,l1]
      refine a0s ?_
      simp (maxSteps:=1000000) (disch:=omega) only [rg,gD,simprocAttr]
      refine fin _ _ _ (by simp (disch:=omega) only [r91,resE,find,a2i,a0d,a0c,reduceIte,Nat.reduceEqDiff]; rfl) (by simp [lo,loL,ansV,whyA,a0h,a0v,a0l a0n]) (by simp<;>omega) ?_
      simp (disch:=omega) only [a0c,hoo]; rfl
  by_cases c6:16≤w.dags.length
  · have hres:a2t w c.dag=(w,whyA 2):=by unfold a2t; rw [if_neg (by simp [c1]),if_neg c3,if_pos c6]
    rw [hres] at fin ⊢
    simp (maxSteps:=1000000) (disch:=omega) only [rg,gD,simprocAttr,decide_eq_false c3,ge_iff_le,a0k,hoo,l1,show (16:Int)≤w.dags.length by omega]
    refine ⟨_,a1s 2, ?_⟩
    simp (maxSteps:=1000000) (disch:=omega) only [rg,gD,simprocAttr,ansV,hoo,l1]
    refine a0s ?_
    simp (maxSteps:=1000000) (disch:=omega) only [rg,gD,simprocAttr]
    refine fin _ _ _ (by simp (disch:=omega) only [r91,resE,find,a2i,a0d,a0c,reduceIte,Nat.reduceEqDiff]; rfl) (by simp [lo,loL,ansV,whyA,a0h,a0v,a0l a0n]) (by simp<;>omega) ?_
    simp (disch:=omega) only [a0c,hoo]; rfl
  have hres:a2t w c.dag=({ w with dags:=putD w.dags c.dag },whyA 0):=by unfold a2t; rw [if_neg (by simp [c1]),if_neg c3,if_neg c6]
  have hle:lbD c.dag.name w.dags≤w.dags.length:=by have:=d7r hw.rdags c.dag.name; rwa [a1y] at this
  have hput:putD w.dags c.dag=w.dags.take (lbD c.dag.name w.dags)++c.dag::w.dags.drop (lbD c.dag.name w.dags):=rfl
  rw [hput] at hres
  rw [hres] at fin ⊢
  generalize lbD c.dag.name w.dags=i at hle
  have hlen:(w.dags.take i++c.dag::w.dags.drop i).length=w.dags.length+1:=by simp; omega
  simp (maxSteps:=1000000) (disch:=omega) only [rg,gD,simprocAttr,decide_eq_false c3,ge_iff_le,a0k,hoo,l1,show ¬ (16:Int)≤w.dags.length by omega]
  by_cases hz:w.dags.length=0
  · have hz':w.dags=[]:=List.length_eq_zero_iff.1 hz
    obtain rfl:i=0:=by omega
    refine ⟨_,_,_,_,by rw [hz',a0v]; exact b6y ena148 (by decide) _ _, ?_⟩
    simp (maxSteps:=1000000) (disch:=omega) only [rg,gD,simprocAttr,hoo,l1]
    refine ⟨by simp [a1h,disj,nthL]<;>omega, ?_⟩
    refine ⟨_,_,_,_,b7m ena147 (by decide) rfl (a0i c.dag) (by decide), ?_⟩
    simp (maxSteps:=1000000) (disch:=omega) only [rg,gD,simprocAttr,hoo,l1,l3,l4]
    refine c0x (a:=V.agg [V.int .i64 0,V.str [],V.int .i64 0,V.int .i64 0,V.int .i64 0,V.fsl .nil 5 []]) (q:=h+1) (p:=h) (id:=id) (w:=w) (ds:=w.dags.take 0++c.dag::w.dags.drop 0) rfl ?_ ?_ (by simp (disch:=omega) only [a0d,a0c,wo_0,wo_1,wo_2]) rfl (by omega) (by omega) (by omega) (by simp only []; omega) (by simp [lo,loL,ansV,whyA,a0h,a0v]) rfl fun _ _ h => h
    · rw [hz']; simp (disch:=omega) only [a0d,a0c]; rfl
    · rw [hz']; simp (disch:=omega) only [a0d,a0c]; rfl
  refine c1i.row (by rw [a0k]; omega) (a0a a0i) (by rw [a0k]; omega) ?_
  simp (maxSteps:=1000000) (disch:=omega) only [rg,gD,simprocAttr,hoo,l1,l3,a0k]
  refine ⟨by simp [a1h,disj,nthL]<;>omega, ?_⟩
  refine ⟨_,_,_,_,c8x (id:=h+1) (l:=w.dags) c.dag (by simp (disch:=omega) only [a0d,a0c,wo_0,wo_1,wo_2]) (by simp only []; omega) hnd hle, ?_⟩
  simp (maxSteps:=1000000) (disch:=omega) only [rg,gD,simprocAttr,hoo,l1,l3,l4]
  refine c0x (a:=V.agg [V.int .i64 0,V.str [],V.int .i64 0,V.int .i64 0,V.int .i64 0,V.fsl .nil 5 []]) (q:=h+2) (p:=h) (id:=id) (w:=w) (ds:=w.dags.take i++c.dag::w.dags.drop i) rfl (by simp (disch:=omega) only [a0d,a0c,wo_0,wo_1,wo_2]) (by rw [hlen]; exact (by simp (disch:=omega) only [a0d,a0c,wo_0,wo_1,wo_2,drU])) (by simp (disch:=omega) only [a0d,a0c,wo_0,wo_1,wo_2]) rfl (by omega) (by omega) (by omega) (by simp only []; omega) (by simp [lo,loL,ansV,whyA,a0h,a0v]) rfl fun _ _ h => h
end
section
theorem b6e (r:Rn):getC none 1 (rnV r)=some (.str r.dag.name):=rfl
open Classical in
set_option maxHeartbeats 1000000 in
theorem d0g (w:Wd) (c:Cmd) (ok:WdOk w) (hw:WR w):DoC 92 w c (a5i w c.key c.name):=by
  have hnr:=ok.runs
  have hnd:=ok.dags
  have hwd:=a9p w
  have hwr:=a7s w
  have hfd:=b2u c.name w.dags (by omega) hw.rdags
  have hfr:=b2z c.key w.runs (by omega) hw.rruns
  unfold wdV at hwd hwr
  unfold a6m at hwd hfd
  unfold a5z at hwr hfr
  refine mkDo (k:=5) ena92 (by simp) fun id h m hid ho fin => ?_
  have hoo:=(show only [id] m id=m id by simp [only]).trans ho
  have l1:¬ id=h:=by omega
  have l3:¬ id=h+1:=by omega
  have l4:¬ id=h+2:=by omega
  have l5:¬ id=h+3:=by omega
  have l6:¬ h=id:=by omega
  have hb0:a5i w c.key c.name=if c.key.length < 1∨16 < c.key.length then (w,whyA 1) else if c.name∉a1j w.dags then (w,whyA 161)
    else if c.key∈a1k w.runs then (if (w.runs.getD (lbR c.key w.runs) zR).dag.name≠c.name then (w,whyA 190) else (w,whyA 0))
    else if 64≤w.runs.length then (w,whyA 2) else ({ w with runs:=putR w.runs (newS c.key (w.dags.getD (lbD c.name w.dags) zD)) },whyA 0):=rfl
  by_cases c1:c.key.length < 1
  · rw [if_pos (.inl c1)] at hb0
    rw [hb0] at fin ⊢
    simp (maxSteps:=1000000) (disch:=omega) only [rg,gD,simprocAttr,c92,hoo,l1,show (c.key.length:Int) < 1 by omega]
    refine ⟨_,a1s 1, ?_⟩
    simp (maxSteps:=1000000) (disch:=omega) only [rg,gD,simprocAttr,ansV,hoo,l1]
    refine a0s ?_
    simp (maxSteps:=1000000) (disch:=omega) only [rg,gD,simprocAttr]
    refine fin _ _ _ (by simp (disch:=omega) only [r92,resE,find,a2i,a0d,a0c,reduceIte,Nat.reduceEqDiff]; rfl) (by simp [lo,loL,ansV,whyA,a0h,a0v,a0l a0n]) (by simp<;>omega) ?_
    simp (disch:=omega) only [a0c,hoo]; rfl
  by_cases c2:16 < c.key.length
  · rw [if_pos (.inr c2)] at hb0
    rw [hb0] at fin ⊢
    simp (maxSteps:=1000000) (disch:=omega) only [rg,gD,simprocAttr,c92,hoo,l1,show ¬ (c.key.length:Int) < 1 by omega,show (16:Int) < c.key.length by omega]
    refine ⟨_,a1s 1, ?_⟩
    simp (maxSteps:=1000000) (disch:=omega) only [rg,gD,simprocAttr,ansV,hoo,l1]
    refine a0s ?_
    simp (maxSteps:=1000000) (disch:=omega) only [rg,gD,simprocAttr]
    refine fin _ _ _ (by simp (disch:=omega) only [r92,resE,find,a2i,a0d,a0c,reduceIte,Nat.reduceEqDiff]; rfl) (by simp [lo,loL,ansV,whyA,a0h,a0v,a0l a0n]) (by simp<;>omega) ?_
    simp (disch:=omega) only [a0c,hoo]; rfl
  rw [if_neg (fun h => h.elim c1 c2)] at hb0
  simp (maxSteps:=1000000) (disch:=omega) only [rg,gD,simprocAttr,c92,hoo,l1,show ¬ (c.key.length:Int) < 1 by omega,show ¬ (16:Int) < c.key.length by omega]
  refine ⟨_,hwd, ?_⟩
  simp (maxSteps:=1000000) (disch:=omega) only [rg,gD,simprocAttr,hoo,l1]
  refine ⟨_,hfd, ?_⟩
  have hlb:lbS c.name (a1j w.dags)=lbD c.name w.dags:=rfl
  have hlbr:lbS c.key (a1k w.runs)=lbR c.key w.runs:=rfl
  rw [hlb]
  by_cases c3:c.name∈a1j w.dags
  case neg =>
    rw [if_pos c3] at hb0
    rw [hb0] at fin ⊢
    simp (maxSteps:=1000000) (disch:=omega) only [rg,gD,simprocAttr,decide_eq_false c3]
    refine ⟨_,a1s 161, ?_⟩
    simp (maxSteps:=1000000) (disch:=omega) only [rg,gD,simprocAttr,ansV,hoo,l1]
    refine a0s ?_
    simp (maxSteps:=1000000) (disch:=omega) only [rg,gD,simprocAttr]
    refine fin _ _ _ (by simp (disch:=omega) only [r92,resE,find,a2i,a0d,a0c,reduceIte,Nat.reduceEqDiff]; rfl) (by simp [lo,loL,ansV,whyA,a0h,a0v,a0l a0n]) (by simp<;>omega) ?_
    simp (disch:=omega) only [a0c,hoo]; rfl
  obtain ⟨hi,hin⟩:=b3b hw.rdags c3
  rw [if_neg (fun e => e c3),a2k hi] at hb0
  have hdr0:=hw.dags _ (List.getElem_mem hi)
  have hdk:=ok.dag _ (List.getElem_mem hi)
  have hnew:=d4y c.key w.dags[lbD c.name w.dags] (by omega) hdk.2 hdk.1
  have hnp:newP c.key w.dags[lbD c.name w.dags]=(newS c.key w.dags[lbD c.name w.dags],0):=by
    unfold newP
    rw [if_neg (by simp [a6n]; omega),if_neg (by rw [hdr0]; simp)]
  rw [hnp] at hnew
  have hnk:=c4s c.key w.dags[lbD c.name w.dags]
  generalize newS c.key w.dags[lbD c.name w.dags]=nr at hnew hnk hb0
  unfold rnE at hnew
  generalize lbD c.name w.dags=i at hi hin hnew
  simp (maxSteps:=1000000) (disch:=omega) only [rg,gD,simprocAttr,decide_eq_true c3,hoo,l1]
  refine ⟨_,hwr, ?_⟩
  simp (maxSteps:=1000000) (disch:=omega) only [rg,gD,simprocAttr,hoo,l1]
  refine ⟨_,hfr, ?_⟩
  rw [hlbr]
  by_cases c4:c.key∈a1k w.runs
  · obtain ⟨hj,hjk⟩:=a6j hw.rruns c4
    rw [if_pos c4] at hb0
    rw [a2k hj] at hb0
    generalize lbR c.key w.runs=j at hj hjk hb0
    by_cases c5:w.runs[j].dag.name=c.name
    · rw [if_neg (fun e => e c5)] at hb0
      rw [hb0] at fin ⊢
      simp (maxSteps:=1000000) (disch:=omega) only [rg,gD,simprocAttr,decide_eq_true c4,hoo,l1,a0m hj,Int.toNat_natCast,show (j:Int) < (w.runs.length:Int) by omega,b6e,eq_true c5]
      refine a0s ?_
      simp (maxSteps:=1000000) (disch:=omega) only [rg,gD,simprocAttr]
      refine fin _ _ _ (by simp (disch:=omega) only [r92,resE,find,a2i,a0d,a0c,reduceIte,Nat.reduceEqDiff]; rfl) (by simp [lo,loL,ansV,whyA,a0h,a0v,a0l a0n]) (by simp<;>omega) ?_
      simp (disch:=omega) only [a0c,hoo]; rfl
    · rw [if_pos c5] at hb0
      rw [hb0] at fin ⊢
      simp (maxSteps:=1000000) (disch:=omega) only [rg,gD,simprocAttr,decide_eq_true c4,hoo,l1,a0m hj,Int.toNat_natCast,show (j:Int) < (w.runs.length:Int) by omega,b6e,eq_false c5]
      refine ⟨_,a1s 190, ?_⟩
      simp (maxSteps:=1000000) (disch:=omega) only [rg,gD,simprocAttr,ansV,hoo,l1]
      refine a0s ?_
      simp (maxSteps:=1000000) (disch:=omega) only [rg,gD,simprocAttr]
      refine fin _ _ _ (by simp (disch:=omega) only [r92,resE,find,a2i,a0d,a0c,reduceIte,Nat.reduceEqDiff]; rfl) (by simp [lo,loL,ansV,whyA,a0h,a0v,a0l a0n]) (by simp<;>omega) ?_
      simp (disch:=omega) only [a0c,hoo]; rfl
  rw [if_neg c4] at hb0
  by_cases c6:64≤w.runs.length
  · rw [if_pos c6] at hb0
    rw [hb0] at fin ⊢
    simp (maxSteps:=1000000) (disch:=omega) only [rg,gD,simprocAttr,decide_eq_false c4,ge_iff_le,a0k,hoo,l1,show (64:Int)≤w.runs.length by omega]
    refine ⟨_,a1s 2, ?_⟩
    simp (maxSteps:=1000000) (disch:=omega) only [rg,gD,simprocAttr,ansV,hoo,l1]
    refine a0s ?_
    simp (maxSteps:=1000000) (disch:=omega) only [rg,gD,simprocAttr]
    refine fin _ _ _ (by simp (disch:=omega) only [r92,resE,find,a2i,a0d,a0c,reduceIte,Nat.reduceEqDiff]; rfl) (by simp [lo,loL,ansV,whyA,a0h,a0v,a0l a0n]) (by simp<;>omega) ?_
    simp (disch:=omega) only [a0c,hoo]; rfl
  rw [if_neg c6] at hb0
  have hle:lbR c.key w.runs≤w.runs.length:=by have:=d7r hw.rruns c.key; rwa [a2x] at this
  have hput:putR w.runs nr=w.runs.take (lbR c.key w.runs)++nr::w.runs.drop (lbR c.key w.runs):=by
    unfold putR; rw [hnk,if_neg c4,Nat.add_zero]
  rw [hput] at hb0
  rw [hb0] at fin ⊢
  generalize lbR c.key w.runs=j at hle
  have hlen:(w.runs.take j++nr::w.runs.drop j).length=w.runs.length+1:=by simp; omega
  simp (maxSteps:=1000000) (disch:=omega) only [rg,gD,simprocAttr,decide_eq_false c4,ge_iff_le,a0k,hoo,l1,show ¬ (64:Int)≤w.runs.length by omega,show (i:Int) < (w.dags.length:Int) by omega,a0m hi,a2l,Int.toNat_natCast]
  refine ⟨_,hnew, ?_⟩
  simp (maxSteps:=1000000) (disch:=omega) only [rg,gD,simprocAttr,hoo,l1,l3,a2a,a1e]
  refine ⟨by simp [a1h,disj,nthL]<;>omega, ?_⟩
  by_cases hz:w.runs.length=0
  · have hz':w.runs=[]:=List.length_eq_zero_iff.1 hz
    obtain rfl:j=0:=by omega
    refine ⟨_,_,_,_,by rw [hz',a0v]; exact b6y ena152 (by decide) _ _, ?_⟩
    simp (maxSteps:=1000000) (disch:=omega) only [rg,gD,simprocAttr,hoo,l1,l3,a1e]
    refine ⟨by simp [a1h,disj,nthL]<;>omega,⟨rfl,rfl⟩, ?_⟩
    refine ⟨_,_,_,_,b7m ena151 (by decide) rfl (a0g nr) (by decide), ?_⟩
    simp (maxSteps:=1000000) (disch:=omega) only [rg,gD,simprocAttr,hoo,l1,l3,l4]
    refine b0z (a:=V.agg [V.int .i64 0,V.str [],V.int .i64 0,V.int .i64 0,V.int .i64 0,V.fsl .nil 5 []]) (q:=h+2) (p:=h) (id:=id) (w:=w) (t:=w.token) (rs:=w.runs.take 0++nr::w.runs.drop 0) rfl ?_ ?_ (by simp (disch:=omega) only [a0d,a0c,wo_0,wo_1,wo_2]) rfl (by omega) (by omega) (by omega) (by simp only []; omega) (by simp [lo,loL,ansV,whyA,a0h,a0v]) rfl fun _ _ h => h
    · rw [hz']; simp (disch:=omega) only [a0d,a0c]; rfl
    · rw [hz']; simp (disch:=omega) only [a0d,a0c]; rfl
  refine b4c.row (by rw [a0k]; omega) (a0a a0g) (by rw [a0k]; omega) ?_
  simp (maxSteps:=1000000) (disch:=omega) only [rg,gD,simprocAttr,hoo,l1,l3,l4,a0k,a1e]
  refine ⟨by simp [a1h,disj,nthL]<;>omega,⟨rfl,rfl⟩, ?_⟩
  refine ⟨_,_,_,_,c8s (id:=h+2) (l:=w.runs) nr (by simp (disch:=omega) only [a0d,a0c,wo_0,wo_1,wo_2]) (by simp only []; omega) hnr hle, ?_⟩
  simp (maxSteps:=1000000) (disch:=omega) only [rg,gD,simprocAttr,hoo,l1,l3,l4,l5]
  refine b0z (a:=V.agg [V.int .i64 0,V.str [],V.int .i64 0,V.int .i64 0,V.int .i64 0,V.fsl .nil 5 []]) (q:=h+3) (p:=h) (id:=id) (w:=w) (t:=w.token) (rs:=w.runs.take j++nr::w.runs.drop j) rfl (by simp (disch:=omega) only [a0d,a0c,wo_0,wo_1,wo_2]) (by rw [hlen]; exact (by simp (disch:=omega) only [a0d,a0c,wo_0,wo_1,wo_2,drU])) (by simp (disch:=omega) only [a0d,a0c,wo_0,wo_1,wo_2]) rfl (by omega) (by omega) (by omega) (by simp only []; omega) (by simp [lo,loL,ansV,whyA,a0h,a0v]) rfl fun _ _ h => h
end
theorem d5r (a b:Rn) (h:rnV a=rnV b):a=b:=by
  obtain ⟨k,d,i,ss⟩:=a
  obtain ⟨k',d',i',ss'⟩:=b
  have h2:dagV d=dagV d':=by simp only [rnV,dagV,V.agg.injEq,List.cons.injEq] at h ⊢; exact ⟨h.2.1,h.2.2.1,trivial⟩
  have:=c0h _ _ h2
  subst this
  simp only [rnV,a0h,V.agg.injEq,V.str.injEq,V.int.injEq,V.fsl.injEq,List.cons.injEq,true_and,and_true] at h
  obtain ⟨h1,h3,h4⟩:=h
  have:=b9b b9v h4
  subst h1; subst h3; subst this; rfl
theorem c4l {α:Type} {q:α→Bool}:∀ (l:List α) (i:Nat),fndS q i l=(l.findIdx? q).map (i+·)
  | [],i => rfl
  | a::l,i => by
    simp only [fndS,List.findIdx?_cons]
    cases q a with
    | true => simp
    | false =>
      simp only [Bool.false_eq_true,if_false,c4l l (i+1),Option.map_map]
      congr 1; funext j; simp; omega
theorem d4j {α:Type} (l:List α) (q:α→Bool):ixA l q=ixO (fndS q 0 l):=by
  rw [c4l]; unfold ixA ixO; cases l.findIdx? q<;>simp
structure Bx (H:Hp) (id q:Nat) (w:Wd) (c:Cmd):Prop where
  li:id < H.n
  lq:q < H.n
  ho:H.m id=some (.arr 12 [drV w c])
  hq:H.m q=some (.arr 1 [.ptr id 0 0])
theorem Bx.ne {H:Hp} {id q:Nat} {w:Wd} {c:Cmd} (h:Bx H id q w c):id≠q:=by
  intro e; have:=h.ho; rw [e,h.hq] at this; simp at this
theorem Bx.fp {H:Hp} {id q:Nat} {w:Wd} {c:Cmd} (h:Bx H id q w c):∀ j∈[q,id],j < H.n∧∀ o,H.m j=some o→o.low H.n=true:=by
  intro j hj
  simp at hj
  rcases hj with rfl | rfl
  · exact ⟨h.lq,fun o e => by rw [h.hq] at e; simp at e; subst e; simp [Ob.low,lowL,V.low,h.li]⟩
  · exact ⟨h.li,fun o e => by rw [h.ho] at e; simp at e; subst e; simp [Ob.low,lowL,b5c]⟩
theorem c6h (H:Hp) (id q:Nat) (w:Wd) (c:Cmd) (s:Stt) (h:Bx H id q w c):ACall Tryz.prog 209 [sttV s,.ptr q 0 0] H [q,id] (.bool (a4l c.token s)) [] 1:=by
  refine ena209 (by simp) (by simp [lowL,V.low,h.lq,V.low_closed _ (a0e s)]) h.fp (by simp) ?_
  have q1:only [q,id] H.m q=some (.arr 1 [.ptr id 0 0]):=by simp [only,h.hq]
  have q2:only [q,id] H.m id=some (.arr 12 [drV w c]):=by simp [only,h.ho]
  unfold drV drU at q2
  have l1:¬ q=H.n:=by have:=h.lq; omega
  have l2:¬ id=H.n:=by have:=h.li; omega
  by_cases c1:s.is=2
  · simp (maxSteps:=1000000) (disch:=omega) only [rg,gD,simprocAttr,c209,sttV,q1,q2,l1,l2,eq_true c1]
    refine a1v (l:=[.bool (decide (s.token=c.token))]) ?_ (.inl (by simp [pack,a4l,c1])) (by simp) (fun j => ?_)
    · simp [resE,find]; rfl
    by_cases hj:j=H.n
    · subst hj; left; simp [appd,only]; omega
    · right; simp [appd,upd,hj]
  · simp (maxSteps:=1000000) (disch:=omega) only [rg,gD,simprocAttr,c209,sttV,q1,q2,l1,l2,eq_false c1]
    refine a1v (l:=[.bool false]) ?_ (.inl (by simp [pack,a4l,c1])) (by simp) (fun j => ?_)
    · simp [resE,find]; rfl
    by_cases hj:j=H.n
    · subst hj; left; simp [appd,only]; omega
    · right; simp [appd,upd,hj]
theorem d0i (H:Hp) (id q:Nat) (w:Wd) (c:Cmd) (r:Rn) (h:Bx H id q w c) (hn:r.states.length≤1000):∃ k,k≤1001∧ACall Tryz.prog 208 [rnV r,.ptr q 0 0] H [q,id] (.bool (hasP c.token r)) [] k:=by
  have h1:ACall Tryz.prog 208 [rnV r,.ptr q 0 0] H [q,id] (.bool (hasP c.token r)) [] (1+r.states.length*1):=by
    refine ena208 (by simp) (by simp [lowL,V.low,h.lq,V.low_closed _ (a0g r)]) h.fp (by simp) ?_
    have q1:only [q,id] H.m q=some (.arr 1 [.ptr id 0 0]):=by simp [only,h.hq]
    have q2:only [q,id] H.m id=some (.arr 12 [drV w c]):=by simp [only,h.ho]
    have l1:¬ q=H.n:=by have:=h.lq; omega
    have l2:¬ id=H.n:=by have:=h.li; omega
    have hb:∀ H':Hp,H'.n=H.n+1→H'.m q=some (.arr 1 [.ptr id 0 0])→H'.m id=some (.arr 12 [drV w c])→ACall Tryz.prog 203 [.fsl .loose 5 (mv sttV r.states),.fn 209 [] [.ptr q 0 0]] H' [q,id] (.bool (r.states.any (a4l c.token))) [] (r.states.length*1):=fun H' e1 e2 e3 => by
      have hbx:Bx H' id q w c:=⟨by have:=h.li; omega,by have:=h.lq; omega,e3,e2⟩
      refine b4z (by omega) (by simp [lowL]) (by simp [lowL,V.low,hbx.lq]) hbx.fp fun x hx H2 g1 g2 => ?_
      exact c6h H2 id q w c x ⟨by have:=hbx.li; omega,by have:=hbx.lq; omega,(g2 id (by simp)).trans e3,(g2 q (by simp)).trans e2⟩
    simp (maxSteps:=1000000) (disch:=omega) only [rg,gD,simprocAttr,c208,rnV,a0h,q1,q2,l1,l2]
    refine ⟨_,_,_,_,hb _ rfl (by simp (disch:=omega) only [a0d,a0c,wo_0,wo_1,wo_2,q1]) (by simp (disch:=omega) only [a0d,a0c,wo_0,wo_1,wo_2,q2]), ?_⟩
    simp (maxSteps:=1000000) (disch:=omega) only [rg,gD,simprocAttr]
    refine a1v (l:=[.bool (r.states.any (a4l c.token))]) ?_ (.inl rfl) (by simp only []; omega) (fun j => ?_)
    · simp [resE,find]; rfl
    by_cases hj:j=H.n
    · subst hj; left; simp [appd,only]; omega
    · right; simp [appd,upd,hj]
  exact ⟨_,by omega,h1⟩
section
theorem ACall.more {P:Program} {f:Nat} {vs:List V} {H:Hp} {fp:List Nat} {r:V} {ds:List (Nat×Option Ob)} {k k':Nat} (h:ACall P f vs H fp r ds k) (hk:k≤k'):ACall P f vs H fp r ds k':=by
  refine ⟨h.1,fun p hp => (h.2.1 p hp).imp (fun h => h) (fun h => ⟨h.1,by omega⟩),fun m g w xs h1 h2 h3 h4 => (h.2.2 m g w xs h1 (fun i a b => h2 i a (by omega)) h3 h4).mono ?_⟩
  rintro e w' ⟨x,g',k1,k2,k3,k4,k5⟩
  exact ⟨x,g',k1,k2,k3,fun i hi => k4 i (fun hh => hi ⟨hh.1,by omega⟩),k5⟩
theorem c8p {st:St} {rows:List Rn} {fs cs:List V} {g:Nat} {q:Rn→Bool} {H:Hp} {fp:List Nat} {kk:Nat} (hn:rows.length≤1000000) (hl:lowL H.n fs=true) (hl':lowL H.n cs=true) (hfp:FpOk H fp)
    (hg:∀ x∈rows,∀ H':Hp,H.n≤H'.n→(∀ id∈fp,H'.m id=H.m id)→ACall Tryz.prog g (fs++[rnV x]++cs) H' fp (.bool (q x)) [] kk) :
    ACall Tryz.prog 207 [.fsl st 5 (mv rnV rows),.fn g fs cs] H fp (.int .i64 (ixO (fndS q 0 rows))) [] (rows.length*kk):=by
  rw [← d4j]
  exact d7m (k:=some 5) ena207 (by decide) d5r a0g (fun _ => rfl) (by omega) hl hl' hfp hg
theorem e0i {id p q sz t:Nat} {H':Hp} {pre post rows:List V} {a:V}
    (hq:H'.m q=some (.arr sz rows)) (hrows:a0b rows=true) (hid:H'.m id=some (.arr 12 [.agg (pre++.sl q 0 rows.length::post)])) (hpre:a0b pre=true) (hpost:a0b post=true)
    (hp:H'.m p=some (.arr 6 [a])) (ha:a.closed=true) (h1:id≠q) (h2:p≠q) (h3:p≠id) {Q:QA}
    (hQ:∀ H2:Hp,H2.n=H'.n→H2.m id=some (.arr 12 [lo (.agg (pre++.fsl .loose sz rows::post))])→H2.m p=some (.arr 6 [a]) →
      (∀ b i o j,b≠q→b≠id→H'.m b=some (.arr 1 [.ptr i o j])→H2.m b=some (.arr 1 [.ptr i o j]))→Q .ret [(t,.ptr p 0 0)] H2) :
    evX Tryz.prog (.frz .ret) [(t,.ptr p 0 0)] H' Q:=by
  refine d1f [q] [id] ?_
  have hs:∀ j,snap (j+1) (only [q] H'.m) (.sl q 0 rows.length)=some (.fsl .loose sz rows):=fun j => by
    have:mapO (snap j (only [q] H'.m)) rows=some rows:=a0z hrows
    have e:only [q] H'.m q=some (.arr sz rows):=by simp [only,hq]
    rw [snap,if_neg (by simp [V.closed])]
    simp [e,this]
  have e1:=d1c (fz:=[q]) (ids:=[id]) hid (by simp [h1]) (by simp)
  simp only [List.map_cons,List.map_nil,a9m hs hpre hpost,loL] at e1
  have e2:=d1z (fz:=[q]) (ids:=[id]) hp (by simp [a0b,ha]) (by simp [h2]) (by simp [h3])
  simp only [vr,b0l]
  simp (maxSteps:=1000000) (disch:=omega) only [rg,gD,simprocAttr]
  refine hQ _ rfl e1 e2 fun b i o j b1 b2 b3 => ?_
  have:=c8a (fz:=[q]) (ids:=[id]) b3 (by simp [b1]) (by simp [b2])
  simpa only [List.map_cons,List.map_nil,b0l] using this
open Classical in
set_option maxHeartbeats 1000000 in
theorem b7u (w:Wd) (c:Cmd) (ok:WdOk w) (hw:WR w) (g b:Nat) (f:Task→Stt→Stt×Int) (H:Hp) (id:Nat) (hbx:Bx H id b w c)
    (hdo:∀ (H':Hp) r,r∈w.runs→Bx H' id b w c→ACall Tryz.prog g [rnV r,.ptr b 0 0] H' [b,id] (rnE (a3k w.now f c.token r)) [] 2) :
    ACall Tryz.prog 155 [.ptr id 0 0,.fn g [] [.ptr b 0 0]] H [b,id] (ansV (a3e w f c.token).2) [(id,some (.arr 12 [drV (a3e w f c.token).1 c]))] (w.runs.length*1001+7):=by
  have hnr:=ok.runs
  refine ena155 (by simp) (by simp [lowL,V.low,hbx.li,hbx.lq]) hbx.fp (by simp) ?_
  have hne:=hbx.ne
  have hoo:only [b,id] H.m id=some (.arr 12 [drV w c]):=by simp [only,hbx.ho]
  have hqq:only [b,id] H.m b=some (.arr 1 [.ptr id 0 0]):=by simp [only,hbx.hq]
  have li:=hbx.li
  have lq:=hbx.lq
  have l1:¬ id=H.n:=by omega
  have l2:¬ id=H.n+1:=by omega
  have l3:¬ b=H.n:=by omega
  have l4:¬ b=H.n+1:=by omega
  unfold drV drU at hoo
  have hix:∀ H':Hp,H'.n=H.n+2→H'.m H.n=some (.arr 1 [.ptr id 0 0])→H'.m id=some (.arr 12 [drV w c])→ACall Tryz.prog 207 [.fsl .loose 5 (mv rnV w.runs),.fn 208 [] [.ptr H.n 0 0]] H' [H.n,id] (.int .i64 (ixO (fndS (hasP c.token) 0 w.runs))) [] (w.runs.length*1001):=fun H' e1 e2 e3 => by
    have hb2:Bx H' id H.n w c:=⟨by omega,by omega,e3,e2⟩
    refine c8p (by omega) (by simp [lowL]) (by simp [lowL,V.low,hb2.lq]) hb2.fp fun x hx H2 g1 g2 => ?_
    have hss:=(hw.runs x hx).2.small.2.1
    obtain ⟨k,hk,hc⟩:=d0i H2 id H.n w c x ⟨by omega,by omega,(g2 id (by simp)).trans e3,(g2 H.n (by simp)).trans e2⟩ (by omega)
    exact hc.more hk
  simp (maxSteps:=1000000) (disch:=omega) only [rg,gD,simprocAttr,c155,hoo,l1,l2,l3,l4]
  refine ⟨_,_,_,_,hix _ rfl (by simp (disch:=omega) only [a0d,a0c,wo_0,wo_1,wo_2]) (by simp (disch:=omega) only [a0d,a0c,wo_0,wo_1,wo_2,hoo,drV,drU]), ?_⟩
  have fin:∀ (σ:Sg) (H':Hp) (r:V),resE σ H'.m r155=some [r]→lo r=ansV (a3e w f c.token).2→H'.n≤H.n+(w.runs.length*1001+7)→H'.m id=some (.arr 12 [drV (a3e w f c.token).1 c])→H'.m b=some (.arr 1 [.ptr id 0 0]) →
      FinA r155 (only [b,id] H.m) H.n (ansV (a3e w f c.token).2) [(id,some (.arr 12 [drV (a3e w f c.token).1 c]))] (w.runs.length*1001+7) .ret σ H':=fun σ H' r h1 h2 h3 h4 h5 => by
    refine a1v (l:=[r]) h1 (.inr (.inr h2)) h3 fun j => ?_
    simp only [appd,upd]
    by_cases j1:j=id
    · rw [if_pos j1,j1,h4]; exact .inr rfl
    · rw [if_neg j1]
      by_cases j2:j=b
      · rw [j2,h5,hqq]; exact .inr rfl
      · left; simp [only,j1,j2]
  have hsp:a3e w f c.token=match fndS (hasP c.token) 0 w.runs with
      | none => (w,whyA 191)
      | some i => if (a3k w.now f c.token (w.runs.getD i zR)).2≠0 then (w,whyA (a3k w.now f c.token (w.runs.getD i zR)).2)
        else ({ w with runs:=w.runs.set i (a3k w.now f c.token (w.runs.getD i zR)).1 },⟨0,(w.runs.getD i zR).key,0,0,0,[]⟩):=by
    unfold a3e; cases fndS (hasP c.token) 0 w.runs<;>rfl
  cases hf:fndS (hasP c.token) 0 w.runs with
  | none =>
    have hres:a3e w f c.token=(w,whyA 191):=by rw [hsp,hf]
    rw [hres] at fin ⊢
    simp (maxSteps:=1000000) (disch:=omega) only [rg,gD,simprocAttr,ixO,show (-1:Int) < 0 by omega]
    refine ⟨_,a1s 191, ?_⟩
    simp (maxSteps:=1000000) (disch:=omega) only [rg,gD,simprocAttr,ansV,hoo]
    refine a0s ?_
    simp (maxSteps:=1000000) (disch:=omega) only [rg,gD,simprocAttr]
    refine fin _ _ _ (by simp (disch:=omega) only [r155,resE,find,a2i,a0d,a0c,reduceIte,Nat.reduceEqDiff]; rfl) (by simp [lo,loL,ansV,whyA,a0h,a0v,a0l a0n]) (by simp only []; omega) ?_ ?_
    · simp (disch:=omega) only [a0c,hoo]; rfl
    · simp (disch:=omega) only [a0c,hqq]
  | some i =>
    obtain ⟨hi,_,_⟩:=a4k hf
    rw [hf] at hsp
    simp only [a2k hi] at hsp
    have hkey:=b9u (now:=w.now) (token:=c.token) (f:=f) (r:=w.runs[i])
    have hdo':=fun H' => hdo H' w.runs[i] (List.getElem_mem hi)
    generalize a3k w.now f c.token w.runs[i]=z at hdo' hkey hsp
    unfold rnE at hdo'
    obtain ⟨N,hN⟩:∃ N,N=H.n+2+w.runs.length*1001:=⟨_,rfl⟩
    have m1:¬ id=N+2:=by omega
    have m2:¬ b=N+2:=by omega
    have m3:¬ H.n=N+2:=by omega
    have m4:¬ H.n+1=N+2:=by omega
    have m5:¬ id=N+3:=by omega
    have m6:¬ id=N+4:=by omega
    have m7:¬ H.n=id:=by omega
    have m8:¬ H.n+1=id:=by omega
    simp (maxSteps:=1000000) (disch:=omega) only [rg,gD,simprocAttr,ixO,show ¬ (i:Int) < 0 by omega,hoo,l1,l2,a0m hi,Int.toNat_natCast,a1e,show (i:Int) < (w.runs.length:Int) by omega]
    refine ⟨_,_,_,_,hdo' _ ⟨by simp only []; omega,by simp only []; omega,(by simp (disch:=omega) only [a0d,a0c,wo_0,wo_1,wo_2,hoo,drV,drU]),(by simp (disch:=omega) only [a0d,a0c,wo_0,wo_1,wo_2,hqq])⟩, ?_⟩
    rw [← hN]
    by_cases z0:z.2=0
    case neg =>
      rw [if_pos z0] at hsp
      rw [hsp] at fin ⊢
      simp (maxSteps:=1000000) (disch:=omega) only [rg,gD,simprocAttr,a2a,eq_false z0,m1,m2,m3,m4,hoo]
      refine ⟨_,a1s z.2, ?_⟩
      simp (maxSteps:=1000000) (disch:=omega) only [rg,gD,simprocAttr,ansV,hoo,m1,m2,m3,m4]
      refine a0s ?_
      simp (maxSteps:=1000000) (disch:=omega) only [rg,gD,simprocAttr]
      refine fin _ _ _ (by simp (disch:=omega) only [r155,resE,find,a2i,a0d,a0c,reduceIte,Nat.reduceEqDiff]; rfl) (by simp [lo,loL,ansV,whyA,a0h,a0v,a0l a0n]) (by simp only []; omega) ?_ ?_
      · simp (disch:=omega) only [a0c,hoo]; rfl
      · simp (disch:=omega) only [a0c,hqq]
    rw [if_neg (by omega)] at hsp
    rw [hsp] at fin ⊢
    simp (maxSteps:=1000000) (disch:=omega) only [rg,gD,simprocAttr,a2a,eq_true z0,m1,m2,m3,m4,hoo,a1e]
    refine ⟨_,_,_,_,c4k w c i z.1 _ id (by simp only []; omega) (by simp (disch:=omega) only [a0d,a0c,wo_0,wo_1,wo_2,hoo,drV,drU]) hi hnr, ?_⟩
    simp (maxSteps:=1000000) (disch:=omega) only [rg,gD,simprocAttr,hoo,m1,m2,m3,m4,m5,m6,m7,m8,c0n]
    refine e0i (sz:=5) (q:=N+4) (p:=H.n+1) (id:=id) (a:=V.agg [V.int .i64 0,V.str z.1.key,V.int .i64 0,V.int .i64 0,V.int .i64 0,V.fsl .nil 5 []]) (pre:=[.int .i64 w.now,.int .i64 w.token,.fsl .loose 2 (mv dagV w.dags)]) (post:=[.int .i64 c.kind,.str c.key,.str c.name,.int .i64 c.token,.int .i64 c.time,.str c.text,.str c.dag.name,a0j c.dag.tasks]) (rows:=mv rnV (w.runs.set i z.1))
      (by simp (disch:=omega) only [a0d,a0c,wo_0,wo_1,wo_2]) (a0a a0g) ?_ (c1w w) (b2m c) (by simp (disch:=omega) only [a0d,a0c,wo_0,wo_1,wo_2]) rfl (by omega) (by omega) (by omega) fun H2 g1 g2 hp2 g4 => ?_
    · rw [a0k,List.length_set]; simp (disch:=omega) only [a0d,a0c,drU]; rfl
    refine fin _ _ _ (by simp (disch:=omega) only [r155,resE,find,a2i,reduceIte,Nat.reduceEqDiff,hp2]; rfl) (by simp [lo,loL,ansV,a0h,a0v,hkey z0]) (by rw [g1]; simp only []; omega) ?_ (g4 b _ _ _ (by omega) (by omega) (by simp (disch:=omega) only [a0d,a0c,wo_0,wo_1,wo_2,hqq]))
    rw [g2]; simp [lo,loL,drV,drU,a0l a0y,a0l a1i,a1a]
end
end Go.Proofs.YtkdeckmglbnfbaaGreat.Ev
