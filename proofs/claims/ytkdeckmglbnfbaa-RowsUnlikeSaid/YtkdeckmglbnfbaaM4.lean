/-
  Part 4 of what the proof of the statement RowsUnlike leans on: the evaluator, the functions in compact form, and what they answer.
-/
import Derived.Test.YtkdeckmglbnfbaaM3
import Derived.Lib.Overlaps
import Derived.ChangeKeysEq
import Derived.Shelf.SlSortCmp.NoneTotal
import Derived.Shelf.Small.Strs
import Derived.Test.YtkdeckmglbnfbaaProg
import Derived.KernelRfl
import Derived.WalkKit
import Derived.ProofKit
set_option linter.unusedSimpArgs false
set_option linter.unusedVariables false
set_option maxRecDepth 10000
namespace Go.Proofs.Ytkdeckmglbnfbaa.Ev
open Go
def Rise (l:List Str):Prop:=∀ i (h:i+1 < l.length),ltS l[i] l[i+1]=true
theorem rise_lt {l:List Str} (h:Rise l):∀ (j i:Nat) (hj:j < l.length) (hi:i < j),ltS (l[i]'(by omega)) l[j]=true
  | 0,i,_,hi => by omega
  | j+1,i,hj,hi => by
    by_cases e:i=j
    · subst e; exact h i hj
    · exact lt_trans' (rise_lt h j i (by omega) (by omega)) (h j hj)
structure IsLb (l:List Str) (t:Str) (i:Nat):Prop where
  le:i≤l.length
  lo:∀ j (h:j < l.length),j < i→ltS l[j] t=true
  hi:∀ j (h:j < l.length),i≤j→ltS l[j] t=false
def lbS (t:Str):List Str→Nat
  | [] => 0
  | a::l => if ltS a t=true then lbS t l+1 else 0
theorem IsLb.eq {t:Str}:∀ {l:List Str} {i:Nat},IsLb l t i→i=lbS t l
  | [],i,h => by have:=h.le; simp at this; simp [lbS,this]
  | a::l,i,h => by
    simp only [lbS]
    cases i with
    | zero =>
      have:=h.hi 0 (by simp) (Nat.le_refl 0)
      simp only [List.getElem_cons_zero] at this
      rw [if_neg (by rw [this]; simp)]
    | succ i =>
      have:=h.lo 0 (by simp) (Nat.succ_pos i)
      simp only [List.getElem_cons_zero] at this
      rw [if_pos this]
      have hl:IsLb l t i:=⟨by have:=h.le; simpa using this,fun j hj hji => by have:=h.lo (j+1) (by simpa using hj) (by omega); simpa using this,fun j hj hji => by have:=h.hi (j+1) (by simpa using hj) (by omega); simpa using this⟩
      rw [hl.eq]
theorem lb_of {l:List Str} {t:Str} {i:Nat} (hr:Rise l) (hi:i≤l.length) (h1:∀ (h:0 < i),ltS (l[i - 1]'(by omega)) t=true) (h2:∀ (h:i < l.length),ltS l[i] t=false):IsLb l t i:=by
  refine ⟨hi,fun j hj hji => ?_,fun j hj hji => ?_⟩
  · by_cases e:j=i - 1
    · subst e; exact h1 (by omega)
    · exact lt_trans' (rise_lt hr (i - 1) j (by omega) (by omega)) (h1 (by omega))
  · by_cases e:j=i
    · subst e; exact h2 hj
    · have hl:=rise_lt hr j i hj (by omega)
      cases k:ltS l[j] t with
      | false => rfl
      | true =>
        have:=lt_trans' hl k
        rw [h2 (by omega)] at this; cases this
theorem IsLb.mem {l:List Str} {t:Str} {i:Nat} (hr:Rise l) (h:IsLb l t i):t∈l↔∃ hi:i < l.length,l[i]=t:=by
  constructor
  · intro hm
    obtain ⟨k,hk,rfl⟩:=List.mem_iff_getElem.1 hm
    have hik:i≤k:=by
      rcases Nat.lt_or_ge k i with h1 | h1
      · have:=h.lo k hk h1; rw [lt_irr] at this; cases this
      · exact h1
    refine ⟨by omega, ?_⟩
    rcases Nat.lt_or_ge i k with h3 | h3
    · have h1:=h.hi i (by omega) (Nat.le_refl _)
      rw [rise_lt hr k i hk h3] at h1; cases h1
    · have:i=k:=by omega
      subst this; rfl
  · rintro ⟨hi,rfl⟩; exact List.getElem_mem hi
theorem half_of {i j:Nat} (hi:i < j) (hj:j≤1000000):IntKind.i64.wrap ((IntKind.u64.wrap ((i:Int)+(j:Int))).fdiv (2 ^ min 1 IntKind.u64.bits))=(((i+j) / 2:Nat):Int):=by
  have h1:IntKind.u64.wrap ((i:Int)+(j:Int))=(i:Int)+(j:Int):=by
    simp only [IntKind.wrap,IntKind.bits,IntKind.signed]
    simp [BitVec.toNat_ofInt]
    omega
  rw [h1,show (min 1 IntKind.u64.bits)=1 from rfl,Int.fdiv_eq_ediv_of_nonneg _ (by decide),wrap_i64 (by omega) (by omega)]
  omega
section
def dagsV (l:List Dag):V:=.agg [.fsl .loose 2 (mv dagV l),.fn 45 [] []]
def dagsN (l:List Dag):List Str:=l.map (·.name)
theorem dagsV_closed (l:List Dag):(dagsV l).closed=true:=by simp [dagsV,V.closed,closedL,mv_closed dagV_closed]
theorem dagsN_len (l:List Dag):(dagsN l).length=l.length:=by simp [dagsN]
theorem dagsN_get {l:List Dag} {i:Nat} (h:i < (dagsN l).length):(dagsN l)[i]=(l[i]'(by rwa [dagsN_len] at h)).name:=by simp [dagsN]
theorem getC_dags (d:Dag):getC (some 2) 0 (dagV d)=some (dagV d):=rfl
theorem dags_name (d:Dag):PCall Try.prog 45 [dagV d] (.str d.name):=by
  refine en45 (by simp) (by simp [closedL,dagV_closed]) ?_
  simp (maxSteps:=1000000) (disch:=omega) only [rg,gD,simprocAttr,c45,dagV,tasksV]
  (refine fin_x rfl ?_ ?_<;>simp [pack,lo,loL,V.closed,closedL,mv_closed])
theorem world_dags (w:Wd):PCall Try.prog 24 [wdV w] (dagsV w.dags):=by
  refine en24 (by simp) (by simp [closedL,wdV_closed]) ?_
  simp (maxSteps:=1000000) (disch:=omega) only [rg,gD,simprocAttr,c24,wdV]
  (refine fin_x rfl ?_ ?_<;>simp [pack,lo,loL,V.closed,closedL,mv_closed,dagsV,mv_lo dagV_lo,mv_closed dagV_closed])
open Classical in
theorem dags_rise (l:List Dag) (hl:l.length≤1000000):PCall Try.prog 25 [dagsV l] (.bool (decide (Rise (dagsN l)))):=by
  refine en25 (by simp) (by simp [closedL,dagsV_closed]) ?_
  simp (maxSteps:=1000000) (disch:=omega) only [rg,gD,simprocAttr,c25,dagsV]
  refine x_it l.length (fun k σ H => 1≤H.n∧H.m 0=some (.arr 2 [dagsV l])∧(∀ i (h:i+1 < (dagsN l).length),i < k→ltS (dagsN l)[i] (dagsN l)[i+1]=true)∧σ=[(1,.ptr 0 0 0),(3,.int .i64 ((k:Int)+1))]) ⟨Nat.le_refl 1,by simp [upd,dagsV],by intro i h hi; omega,by simp⟩ ?_
  rintro T k σ ⟨n,m⟩ hkk ⟨hn,e0,hs,rfl⟩ hN hX hR
  simp only at hn e0
  unfold dagsV at e0
  by_cases hk:k+1 < l.length
  · have hk0:k < l.length:=by omega
    have c1:=dags_name l[k+1]
    have c0:=dags_name l[k]
    have hlt:k+1 < (dagsN l).length:=by rw [dagsN_len]; exact hk
    have ht1:((k:Int)+1).toNat=k+1:=by omega
    have ht0:((k:Int)+1 - 1).toNat=k:=by omega
    have hsub:(k:Int)+1 - 1=k:=by omega
    simp (maxSteps:=1000000) (disch:=omega) only [rg,gD,simprocAttr,e0,mv_len,show (k:Int)+1 < l.length by omega,ht1,mv_get hk,mv_get hk0,getC_dags]
    refine ⟨by omega,_,_,_,_,c1.toA _ [], ?_⟩
    simp (maxSteps:=1000000) (disch:=omega) only [rg,gD,simprocAttr,e0,hsub,Int.toNat_natCast,mv_get hk0,getC_dags]
    refine ⟨by simp [compat,disj,nthL],by simp [compat,disj,nthL],by simp [compat,disj,nthL],by simp [compat,disj,nthL],_,_,_,_,c0.toA _ [], ?_⟩
    simp (maxSteps:=1000000) (disch:=omega) only [rg,gD,simprocAttr,le_iff]
    have hg:ltS (dagsN l)[k] (dagsN l)[k+1]=ltS l[k].name l[k+1].name:=by simp [dagsN]
    cases hc:ltS l[k].name l[k+1].name with
    | false =>
      rw [hc] at hg
      simp (maxSteps:=1000000) (disch:=omega) only [rg,gD,simprocAttr]
      refine hR _ _ ?_
      (refine fin_x rfl ?_ ?_<;>simp [pack,lo,loL,V.closed,closedL,mv_closed,decide_eq_false (fun e:Rise (dagsN l) => by rw [e k hlt] at hg; cases hg)])
    | true =>
      rw [hc] at hg
      simp (maxSteps:=1000000) (disch:=omega) only [rg,gD,simprocAttr]
      refine hN _ _ (by omega) ⟨hn,e0,fun i h hi => ?_,by simp⟩
      by_cases e:i=k
      · subst e; exact hg
      · exact hs i h (by omega)
  · simp (maxSteps:=1000000) (disch:=omega) only [rg,gD,simprocAttr,e0,mv_len,show ¬ (k:Int)+1 < l.length by omega]
    refine hX _ _ _ ?_
    simp (maxSteps:=1000000) (disch:=omega) only [rg,gD,simprocAttr]
    refine x_frz0 ?_
    simp (maxSteps:=1000000) (disch:=omega) only [rg,gD,simprocAttr]
    (refine fin_x rfl ?_ ?_<;>simp [pack,lo,loL,V.closed,closedL,mv_closed,decide_eq_true (show Rise (dagsN l) from fun i h => hs i h (by rw [dagsN_len] at h; omega))])
theorem dags_clo (H:Hp) (b:Nat) (d:Dag) (t:Str) (l:List Dag) (hb:b < H.n) (hx:H.m b=some (.arr 2 [dagsV l])) :
    ACall Try.prog 53 [dagV d,.str t,.ptr b 0 0] H [b] (.int .i64 (cmpS d.name t)) [] 1:=by
  refine ena53 (by simp) (by simp [lowL,V.low,hb,V.low_closed _ (dagV_closed d)]) (fun id hid => ?_) (by simp) ?_
  · simp at hid; subst hid
    exact ⟨hb,fun o ho => by rw [hx] at ho; simp at ho; subst ho; simp [Ob.low,lowL,V.low_closed _ (dagsV_closed l)]⟩
  have q1:only [b] H.m b=some (.arr 2 [dagsV l]):=by simp [only,hx]
  unfold dagsV at q1
  have c0:=dags_name d
  have c1:=str_cmp d.name t
  simp (maxSteps:=1000000) (disch:=omega) only [rg,gD,simprocAttr,c53,q1,dagV,tasksV]
  refine ⟨_,_,_,_,c0.toA _ [], ?_⟩
  simp (maxSteps:=1000000) (disch:=omega) only [rg,gD,simprocAttr]
  refine ⟨_,c1, ?_⟩
  simp (maxSteps:=1000000) (disch:=omega) only [rg,gD,simprocAttr]
  refine fin_A (l:=[.int .i64 (cmpS d.name t)]) rfl (.inl rfl) (by simp only []; omega) (fnC hb fun id hid => (by simp (disch:=omega) only [upd_eq,upd_ne,wo_0,wo_1,wo_2]))
open Classical in
theorem dags_search (H:Hp) (b:Nat) (t:Str) (l:List Dag) (hl:l.length≤1000000) (hr:Rise (dagsN l)) (hb:b < H.n) (hx:H.m b=some (.arr 2 [dagsV l])) :
    ACall Try.prog 52 [.fsl .loose 2 (mv dagV l),.str t,.fn 53 [] [.ptr b 0 0]] H [b] (.tup [.int .i64 (lbS t (dagsN l):Nat),.bool (decide (t∈dagsN l))]) [] (l.length+1):=by
  refine ena52 (by simp) (by simp [lowL,V.low,hb,lowL_closed _ (mv_closed dagV_closed)]) (fun id hid => ?_) (by simp) ?_
  · simp at hid; subst hid
    exact ⟨hb,fun o ho => by rw [hx] at ho; simp at ho; subst ho; simp [Ob.low,lowL,V.low_closed _ (dagsV_closed l)]⟩
  have qb:only [b] H.m b=some (.arr 2 [dagsV l]):=by simp [only,hx]
  have fnb:∀ m',m'=only [b] H.m→∀ id,appd [] (only [b] H.m) id=none∨appd [] (only [b] H.m) id=m' id:=fun m' e id => by subst e; exact .inr rfl
  generalize hm0:only [b] H.m=m0 at qb fnb ⊢
  generalize hN0:H.n=N at hb ⊢
  have hnl:=dagsN_len l
  simp (maxSteps:=1000000) (disch:=omega) only [rg,gD,simprocAttr,c52,mv_len]
  refine x_it l.length (fun k σ H' => N≤H'.n∧H'.n≤N+k∧H'.m=m0∧∃ i j:Nat,i≤j∧j≤l.length∧j - i+k≤l.length∧(∀ q (h:q < (dagsN l).length),q < i→ltS (dagsN l)[q] t=true)∧(∀ q (h:q < (dagsN l).length),j≤q→ltS (dagsN l)[q] t=false) ∧
    σ=[(0,.fsl .loose 2 (mv dagV l)),(1,.str t),(2,.fn 53 [] [.ptr b 0 0]),(8,.int .i64 (l.length:Int)),(9,.int .i64 (i:Int)),(10,.int .i64 (j:Int))]) ⟨Nat.le_refl N,by simp,rfl,0,l.length,by omega,by omega,by omega,by intro q h hq; omega,by intro q h hq; omega,rfl⟩ ?_
  rintro T k σ ⟨n,m⟩ hkk ⟨hn,hn2,rfl,i,j,hij,hjl,hk3,hlo,hhi,rfl⟩ hN hX hR
  simp only at hn hn2
  by_cases hlt:i < j
  · have hmid:=half_of hlt (by omega:j≤1000000)
    obtain ⟨h,hh⟩:∃ h,h=(i+j) / 2:=⟨_,rfl⟩
    rw [← hh] at hmid
    have hhl:h < l.length:=by omega
    have hc:=dags_clo ⟨n,m⟩ b l[h] t l (by simp only []; omega) qb
    have hg:ltS (dagsN l)[h] t=ltS l[h].name t:=by simp [dagsN]
    have hcl:=cmp_lt l[h].name t
    simp (maxSteps:=1000000) (disch:=omega) only [rg,gD,simprocAttr,show (i:Int) < (j:Int) by omega,hmid,Int.toNat_natCast,mv_get hhl,getC_dags]
    refine ⟨_,_,_,_,hc, ?_⟩
    have ups:∀ i' j':Nat,i'≤j'→j'≤l.length→j' - i'+(k+1)≤l.length→(∀ q (h:q < (dagsN l).length),q < i'→ltS (dagsN l)[q] t=true)→(∀ q (h:q < (dagsN l).length),j'≤q→ltS (dagsN l)[q] t=false) →
        ∀ σ',σ'=[(0,.fsl .loose 2 (mv dagV l)),(1,.str t),(2,.fn 53 [] [.ptr b 0 0]),(8,.int .i64 (l.length:Int)),(9,.int .i64 (i':Int)),(10,.int .i64 (j':Int))]→T .norm σ' ⟨n+1,m⟩:=fun i' j' a1 a2 a3 a4 a5 σ' e => hN _ _ (by omega) ⟨by simp only []; omega,by simp only []; omega,rfl,i',j',a1,a2,a3,a4,a5,e⟩
    cases hlv:ltS l[h].name t with
    | true =>
      rw [hlv] at hg
      simp (maxSteps:=1000000) (disch:=omega) only [rg,gD,simprocAttr,show cmpS l[h].name t < 0 from hcl.2 hlv]
      refine ups (h+1) j (by omega) hjl (by omega) (fun q hq hqh => ?_) hhi _ (by simp)
      by_cases e:q=h
      · subst e; exact hg
      · exact lt_trans' (rise_lt hr h q (by omega) (by omega)) hg
    | false =>
      rw [hlv] at hg
      simp (maxSteps:=1000000) (disch:=omega) only [rg,gD,simprocAttr,show ¬ cmpS l[h].name t < 0 from fun e => by rw [hcl.1 e] at hlv; cases hlv]
      refine ups i h (by omega) (by omega) (by omega) hlo (fun q hq hqh => ?_) _ (by simp)
      by_cases e:q=h
      · subst e; exact hg
      · have:=rise_lt hr q h hq (by omega)
        cases k:ltS (dagsN l)[q] t with
        | false => rfl
        | true => have:=lt_trans' this k; rw [hg] at this; cases this
  · obtain rfl:i=j:=by omega
    have hlb:IsLb (dagsN l) t i:=⟨by omega,fun q hq h => hlo q hq h,fun q hq h => hhi q hq h⟩
    have hmem:=hlb.mem hr
    have heq:=hlb.eq
    simp (maxSteps:=1000000) (disch:=omega) only [rg,gD,simprocAttr,Int.lt_irrefl]
    refine hX _ _ _ ?_
    simp (maxSteps:=1000000) (disch:=omega) only [rg,gD,simprocAttr]
    refine x_frz0 ?_
    by_cases hil:i < l.length
    · have hc:=dags_clo ⟨n,m⟩ b l[i] t l (by simp only []; omega) qb
      have hce:=cmp_eq l[i].name t
      have hm2:t∈dagsN l↔l[i].name=t:=by rw [hmem]; exact ⟨fun ⟨_,e⟩ => by simpa [dagsN] using e,fun e => ⟨by omega,by simpa [dagsN] using e⟩⟩
      simp (maxSteps:=1000000) (disch:=omega) only [rg,gD,simprocAttr,show (i:Int) < (l.length:Int) by omega,Int.toNat_natCast,mv_get hil,getC_dags]
      refine ⟨_,_,_,_,hc, ?_⟩
      by_cases he:l[i].name=t
      · simp (maxSteps:=1000000) (disch:=omega) only [rg,gD,simprocAttr,eq_true (hce.2 he)]
        refine fin_A (l:=[.int .i64 (i:Int),.bool true]) rfl (.inl (by rw [← heq,decide_eq_true (hm2.2 he)]; rfl)) (by simp only []; omega) (fnb _ rfl)
      · simp (maxSteps:=1000000) (disch:=omega) only [rg,gD,simprocAttr,eq_false (fun e => he (hce.1 e))]
        refine fin_A (l:=[.int .i64 (i:Int),.bool false]) rfl (.inl (by rw [← heq,decide_eq_false (fun e => he (hm2.1 e))]; rfl)) (by simp only []; omega) (fnb _ rfl)
    · simp (maxSteps:=1000000) (disch:=omega) only [rg,gD,simprocAttr,show ¬ (i:Int) < (l.length:Int) by omega]
      refine fin_A (l:=[.int .i64 (i:Int),.bool false]) rfl (.inl (by rw [← heq,decide_eq_false (fun e => by obtain ⟨h1,_⟩:=hmem.1 e; omega)]; rfl)) (by simp only []; omega) (fnb _ rfl)
open Classical in
theorem dags_find (t:Str) (l:List Dag) (hl:l.length≤1000000) (hr:Rise (dagsN l)):PCall Try.prog 31 [dagsV l,.str t] (.tup [.int .i64 (lbS t (dagsN l):Nat),.bool (decide (t∈dagsN l))]):=by
  refine en31 (by simp) (by simp [closedL,V.closed,dagsV_closed]) ?_
  have hs:=fun H hx => dags_search H 0 t l hl hr hx
  simp (maxSteps:=1000000) (disch:=omega) only [rg,gD,simprocAttr,c31,dagsV]
  refine ⟨_,_,_,_,dags_search _ 0 t l hl hr (by simp) (by simp [upd,dagsV]), ?_⟩
  simp (maxSteps:=1000000) (disch:=omega) only [rg,gD,simprocAttr]
  (refine fin_x rfl ?_ ?_<;>simp [pack,lo,loL,V.closed,closedL,mv_closed])
end
section
def runsV (l:List Rn):V:=.agg [.fsl .loose 5 (mv rnV l),.fn 46 [] []]
def runsN (l:List Rn):List Str:=l.map (·.key)
theorem runsV_closed (l:List Rn):(runsV l).closed=true:=by simp [runsV,V.closed,closedL,mv_closed rnV_closed]
theorem runsN_len (l:List Rn):(runsN l).length=l.length:=by simp [runsN]
theorem getC_runs (d:Rn):getC (some 5) 0 (rnV d)=some (rnV d):=rfl
theorem runs_name (d:Rn):PCall Try.prog 46 [rnV d] (.str d.key):=by
  refine en46 (by simp) (by simp [closedL,rnV_closed]) ?_
  simp (maxSteps:=1000000) (disch:=omega) only [rg,gD,simprocAttr,c46,rnV,sttsV,tasksV]
  (refine fin_x rfl ?_ ?_<;>simp [pack,lo,loL,V.closed,closedL,mv_closed])
theorem world_runs (w:Wd):PCall Try.prog 26 [wdV w] (runsV w.runs):=by
  refine en26 (by simp) (by simp [closedL,wdV_closed]) ?_
  simp (maxSteps:=1000000) (disch:=omega) only [rg,gD,simprocAttr,c26,wdV]
  (refine fin_x rfl ?_ ?_<;>simp [pack,lo,loL,V.closed,closedL,mv_closed,runsV,mv_lo rnV_lo,mv_closed rnV_closed])
open Classical in
theorem runs_rise (l:List Rn) (hl:l.length≤1000000):PCall Try.prog 27 [runsV l] (.bool (decide (Rise (runsN l)))):=by
  refine en27 (by simp) (by simp [closedL,runsV_closed]) ?_
  simp (maxSteps:=1000000) (disch:=omega) only [rg,gD,simprocAttr,c27,runsV]
  refine x_it l.length (fun k σ H => 1≤H.n∧H.m 0=some (.arr 2 [runsV l])∧(∀ i (h:i+1 < (runsN l).length),i < k→ltS (runsN l)[i] (runsN l)[i+1]=true)∧σ=[(1,.ptr 0 0 0),(3,.int .i64 ((k:Int)+1))]) ⟨Nat.le_refl 1,by simp [upd,runsV],by intro i h hi; omega,by simp⟩ ?_
  rintro T k σ ⟨n,m⟩ hkk ⟨hn,e0,hs,rfl⟩ hN hX hR
  simp only at hn e0
  unfold runsV at e0
  by_cases hk:k+1 < l.length
  · have hk0:k < l.length:=by omega
    have c1:=runs_name l[k+1]
    have c0:=runs_name l[k]
    have hlt:k+1 < (runsN l).length:=by rw [runsN_len]; exact hk
    have ht1:((k:Int)+1).toNat=k+1:=by omega
    have ht0:((k:Int)+1 - 1).toNat=k:=by omega
    have hsub:(k:Int)+1 - 1=k:=by omega
    simp (maxSteps:=1000000) (disch:=omega) only [rg,gD,simprocAttr,e0,mv_len,show (k:Int)+1 < l.length by omega,ht1,mv_get hk,mv_get hk0,getC_runs]
    refine ⟨by omega,_,_,_,_,c1.toA _ [], ?_⟩
    simp (maxSteps:=1000000) (disch:=omega) only [rg,gD,simprocAttr,e0,hsub,Int.toNat_natCast,mv_get hk0,getC_runs]
    refine ⟨by simp [compat,disj,nthL],by simp [compat,disj,nthL],by simp [compat,disj,nthL],by simp [compat,disj,nthL],_,_,_,_,c0.toA _ [], ?_⟩
    simp (maxSteps:=1000000) (disch:=omega) only [rg,gD,simprocAttr,le_iff]
    have hg:ltS (runsN l)[k] (runsN l)[k+1]=ltS l[k].key l[k+1].key:=by simp [runsN]
    cases hc:ltS l[k].key l[k+1].key with
    | false =>
      rw [hc] at hg
      simp (maxSteps:=1000000) (disch:=omega) only [rg,gD,simprocAttr]
      refine hR _ _ ?_
      (refine fin_x rfl ?_ ?_<;>simp [pack,lo,loL,V.closed,closedL,mv_closed,decide_eq_false (fun e:Rise (runsN l) => by rw [e k hlt] at hg; cases hg)])
    | true =>
      rw [hc] at hg
      simp (maxSteps:=1000000) (disch:=omega) only [rg,gD,simprocAttr]
      refine hN _ _ (by omega) ⟨hn,e0,fun i h hi => ?_,by simp⟩
      by_cases e:i=k
      · subst e; exact hg
      · exact hs i h (by omega)
  · simp (maxSteps:=1000000) (disch:=omega) only [rg,gD,simprocAttr,e0,mv_len,show ¬ (k:Int)+1 < l.length by omega]
    refine hX _ _ _ ?_
    simp (maxSteps:=1000000) (disch:=omega) only [rg,gD,simprocAttr]
    refine x_frz0 ?_
    simp (maxSteps:=1000000) (disch:=omega) only [rg,gD,simprocAttr]
    (refine fin_x rfl ?_ ?_<;>simp [pack,lo,loL,V.closed,closedL,mv_closed,decide_eq_true (show Rise (runsN l) from fun i h => hs i h (by rw [runsN_len] at h; omega))])
end
structure WdOk (w:Wd):Prop where
  dags:w.dags.length≤1000
  runs:w.runs.length≤1000
  dag:∀ d∈w.dags,okDagL d
  run:∀ r∈w.runs,RnOk r
def Tk (tok:Int) (l:List Int):Prop:=(∀ t∈l,t≤tok)∧(l.filter fun t => decide (0 < t)).Nodup
theorem Tk.nil (tok:Int):Tk tok []:=⟨by simp,by simp⟩
theorem Tk.snoc {tok t:Int} {l:List Int}:Tk tok (l++[t])↔Tk tok l∧t≤tok∧¬ (0 < t∧t∈l):=by
  unfold Tk
  rw [List.filter_append]
  by_cases h:0 < t
  · simp only [List.filter_cons,List.filter_nil,h,decide_true,if_true,List.mem_append,List.mem_singleton]
    rw [List.nodup_append]
    simp only [List.mem_filter,decide_eq_true_eq,List.mem_singleton]
    constructor
    · rintro ⟨h1,h2,_,h3⟩
      refine ⟨⟨fun x hx => h1 x (.inl hx),h2⟩,h1 t (.inr rfl),fun ⟨_,k⟩ => h3 t ⟨k,h⟩ t rfl rfl⟩
    · rintro ⟨⟨h1,h2⟩,h3,h4⟩
      refine ⟨fun x hx => hx.elim (h1 x) (fun e => e ▸ h3),h2,by simp, ?_⟩
      rintro a ⟨ha,_⟩ b rfl rfl
      exact h4 ⟨trivial,ha⟩
  · have e:(List.filter (fun t => decide (0 < t)) [t])=[]:=by simp [h]
    rw [e,List.append_nil]
    constructor
    · rintro ⟨h1,h2⟩
      exact ⟨⟨fun x hx => h1 x (by simp [hx]),h2⟩,h1 t (by simp),fun k => h k.1⟩
    · rintro ⟨⟨h1,h2⟩,h3,_⟩
      exact ⟨fun x hx => by rcases List.mem_append.1 hx with hx | hx; exact h1 x hx; simp at hx; subst hx; exact h3,h2⟩
theorem Tk.pre {tok:Int} {l l':List Int} (h:Tk tok (l++l')):Tk tok l:=by
  refine ⟨fun t ht => h.1 t (List.mem_append_left _ ht), ?_⟩
  have:=h.2
  rw [List.filter_append] at this
  exact (List.nodup_append.1 this).1
def toksR (l:List Rn):List Int:=(l.map fun r => tokS r.states).flatten
theorem toksR_snoc (l:List Rn) (r:Rn):toksR (l++[r])=toksR l++tokS r.states:=by simp [toksR]
theorem toksR_take {l:List Rn} {k:Nat} (h:k < l.length):toksR (l.take (k+1))=toksR (l.take k)++tokS l[k].states:=by
  rw [List.take_succ_eq_append_getElem h,toksR_snoc]
structure WR (w:Wd):Prop where
  now:0≤w.now∧w.now≤MT
  token:0≤w.token∧w.token≤MT
  ndags:w.dags.length≤16
  nruns:w.runs.length≤64
  rdags:Rise (dagsN w.dags)
  rruns:Rise (runsN w.runs)
  dags:∀ d∈w.dags,dagRightS d=0
  runs:∀ r∈w.runs,r.dag∈w.dags∧RnR r
  toks:Tk w.token (toksR w.runs)
theorem right_clo1 (d:Dag) (h:okDagL d):PCall Try.prog 29 [dagV d] (.bool (decide (dagRightS d≠0))):=by
  refine en29 (by simp) (by simp [closedL,dagV_closed]) ?_
  have h1:=dag_right d h.2 h.1
  unfold dagV at h1
  simp (maxSteps:=1000000) (disch:=omega) only [rg,gD,simprocAttr,c29,dagV]
  refine ⟨_,h1, ?_⟩
  by_cases c:dagRightS d=0
  · simp (maxSteps:=1000000) (disch:=omega) only [rg,gD,simprocAttr,eq_true c]
    (refine fin_x rfl ?_ ?_<;>simp [pack,lo,loL,V.closed,closedL,mv_closed,c])
  · simp (maxSteps:=1000000) (disch:=omega) only [rg,gD,simprocAttr,eq_false c]
    (refine fin_x rfl ?_ ?_<;>simp [pack,lo,loL,V.closed,closedL,mv_closed,c])
theorem dagV_inj (a b:Dag) (h:dagV a=dagV b):a=b:=by
  obtain ⟨n,t⟩:=a
  obtain ⟨n',t'⟩:=b
  simp only [dagV,tasksV,V.agg.injEq,List.cons.injEq,V.str.injEq,V.fsl.injEq,true_and,and_true] at h
  have:=mv_inj (f:=taskV) (fun a b h => by
    obtain ⟨a1,a2,a3,a4⟩:=a
    obtain ⟨b1,b2,b3,b4⟩:=b
    simp only [taskV,V.agg.injEq,List.cons.injEq,V.fsl.injEq,V.int.injEq,true_and,and_true] at h
    have:=mv_inj (f:=V.int .i64) (fun a b h => by simpa using h) h.1
    simp [this,h.2]) h.2
  rw [h.1,this]
theorem con_dags {st:St} {rows:List Dag} {q:Dag→Bool} {H:Hp} {g:Nat} (hn:rows.length≤1000000) (hg:∀ x∈rows,PCall Try.prog g [dagV x] (.bool (q x))) :
    ACall Try.prog 28 [.fsl st 2 (mv dagV rows),.fn g [] []] H [] (.bool (rows.any q)) [] (rows.length*0) :=
  con_of (k:=some 2) ena28 ena47 (by decide) (by decide) dagV_inj dagV_closed (fun _ => rfl) (by omega) rfl rfl (FpOk.nil H) (fun x hx H' _ _ => by simpa using (hg x hx).toA H' [])
theorem dag_mem {l:List Dag} {d:Dag} (hr:Rise (dagsN l)) {i:Nat} (hi:i=lbS d.name (dagsN l)) (hlb:IsLb (dagsN l) d.name i):d∈l↔d.name∈dagsN l∧∃ h:i < l.length,l[i]=d:=by
  constructor
  · intro h
    have hm:d.name∈dagsN l:=List.mem_map.2 ⟨d,h,rfl⟩
    obtain ⟨h1,h2⟩:=(hlb.mem hr).1 hm
    obtain ⟨k,hk,rfl⟩:=List.mem_iff_getElem.1 h
    have hil:i < l.length:=by rw [dagsN_len] at h1; exact h1
    refine ⟨hm,hil, ?_⟩
    have e:i=k:=by
      rcases Nat.lt_trichotomy i k with e | e | e
      · have:=rise_lt hr k i (by rw [dagsN_len]; exact hk) e
        rw [h2] at this
        simp only [dagsN,List.getElem_map] at this
        rw [lt_irr] at this; cases this
      · exact e
      · have:=rise_lt hr i k h1 e
        rw [h2] at this
        simp only [dagsN,List.getElem_map] at this
        rw [lt_irr] at this; cases this
    subst e; rfl
  · rintro ⟨_,h,rfl⟩; exact List.getElem_mem h
theorem lb_rise {l:List Str} (hr:Rise l) (t:Str):IsLb l t (lbS t l):=by
  obtain ⟨i,hi⟩:∃ i,IsLb l t i:=by
    have:∀ n,∀ hn:n≤l.length,∃ i,i≤n∧(∀ j (h:j < l.length),j < i→ltS l[j] t=true)∧(∀ (h:i < n),ltS (l[i]'(by omega)) t=false):=by
      intro n
      induction n with
      | zero => intro _; exact ⟨0,Nat.le_refl _,by intro j _ h; omega,by intro h; omega⟩
      | succ n ih =>
        intro hn
        obtain ⟨i,h1,h2,h3⟩:=ih (by omega)
        by_cases e:i < n
        · exact ⟨i,by omega,h2,fun _ => h3 e⟩
        · have e:i=n:=by omega
          subst e
          cases c:ltS l[i] t with
          | false => exact ⟨i,by omega,h2,fun _ => c⟩
          | true =>
            refine ⟨i+1,Nat.le_refl _,fun j hj hji => ?_,by intro h; omega⟩
            by_cases e:j=i
            · subst e; exact c
            · exact h2 j hj (by omega)
    obtain ⟨i,h1,h2,h3⟩:=this l.length (Nat.le_refl _)
    exact ⟨i,lb_of hr h1 (fun h => h2 _ _ (by omega)) h3⟩
  rw [← hi.eq]; exact hi
section
open Classical in
theorem run_right' (r:Rn) (ok:RnOk r):PCall Try.prog 33 [rnV r] (.bool (decide (RnR r))):=by
  have:=run_right r ok
  rwa [bool_of_iff (rightS_iff r)] at this
theorem tkM_upd (l:List Int) (t:Int):mset (tkM l) (.int .i64 t) (.bool true)=tkM (l++[t]):=(tkM_snoc l t).symm
theorem tokS_snoc {l:List Stt} {j:Nat} (h:j < l.length):tokS (l.take (j+1))=tokS (l.take j)++[l[j].token]:=tokS_take h
theorem any_bad {l:List Dag}:(l.any fun d => decide (dagRightS d≠0))=true↔¬ ∀ d∈l,dagRightS d=0:=by
  simp [List.any_eq_true]
theorem toksR_app (a b:List Rn):toksR (a++b)=toksR a++toksR b:=by simp [toksR]
theorem tokS_app (a b:List Stt):tokS (a++b)=tokS a++tokS b:=by simp [tokS]
open Classical in
set_option maxHeartbeats 1000000 in
theorem world_right (w:Wd) (ok:WdOk w):PCall Try.prog 11 [wdV w] (.bool (decide (WR w))):=by
  refine en11 (by simp) (by simp [closedL,wdV_closed]) ?_
  have no:∀ {p:Prop},(WR w→p)→¬ p→decide (WR w)=false:=fun h hp => decide_eq_false fun hw => hp (h hw)
  have hnd:=ok.dags
  have hnr:=ok.runs
  by_cases c1:w.now < 0
  · simp (maxSteps:=1000000) (disch:=omega) only [rg,gD,simprocAttr,c11,wdV,c1]
    (refine fin_x rfl ?_ ?_<;>simp [pack,lo,loL,V.closed,closedL,mv_closed,no (fun h => h.now.1) (by omega)])
  by_cases c2:MT < w.now
  · unfold MT at c2
    simp (maxSteps:=1000000) (disch:=omega) only [rg,gD,simprocAttr,c11,wdV,c1,c2]
    (refine fin_x rfl ?_ ?_<;>simp [pack,lo,loL,V.closed,closedL,mv_closed,no (fun h => h.now.2) (by unfold MT; omega)])
  by_cases c3:w.token < 0
  · unfold MT at c2
    simp (maxSteps:=1000000) (disch:=omega) only [rg,gD,simprocAttr,c11,wdV,c1,c2,c3]
    (refine fin_x rfl ?_ ?_<;>simp [pack,lo,loL,V.closed,closedL,mv_closed,no (fun h => h.token.1) (by omega)])
  by_cases c4:MT < w.token
  · unfold MT at c2 c4
    simp (maxSteps:=1000000) (disch:=omega) only [rg,gD,simprocAttr,c11,wdV,c1,c2,c3,c4]
    (refine fin_x rfl ?_ ?_<;>simp [pack,lo,loL,V.closed,closedL,mv_closed,no (fun h => h.token.2) (by unfold MT; omega)])
  by_cases c5:16 < w.dags.length
  · unfold MT at c2 c4
    simp (maxSteps:=1000000) (disch:=omega) only [rg,gD,simprocAttr,c11,wdV,c1,c2,c3,c4,mv_len,show (16:Int) < w.dags.length by omega]
    (refine fin_x rfl ?_ ?_<;>simp [pack,lo,loL,V.closed,closedL,mv_closed,no (fun h => h.ndags) (by omega)])
  by_cases c6:64 < w.runs.length
  · unfold MT at c2 c4
    simp (maxSteps:=1000000) (disch:=omega) only [rg,gD,simprocAttr,c11,wdV,c1,c2,c3,c4,mv_len,show ¬ (16:Int) < w.dags.length by omega,show (64:Int) < w.runs.length by omega]
    (refine fin_x rfl ?_ ?_<;>simp [pack,lo,loL,V.closed,closedL,mv_closed,no (fun h => h.nruns) (by omega)])
  have hd:=world_dags w
  have hdr:=dags_rise w.dags (by omega)
  have hr:=world_runs w
  have hrr:=runs_rise w.runs (by omega)
  have c2':=c2
  have c4':=c4
  unfold MT at c2' c4'
  by_cases c7:Rise (dagsN w.dags)
  case neg =>
    simp (maxSteps:=1000000) (disch:=omega) only [rg,gD,simprocAttr,c11,wdV,c1,c2',c3,c4',mv_len,show ¬ (16:Int) < w.dags.length by omega,show ¬ (64:Int) < w.runs.length by omega]
    refine ⟨_,hd, ?_⟩
    simp (maxSteps:=1000000) (disch:=omega) only [rg,gD,simprocAttr]
    refine ⟨_,hdr, ?_⟩
    simp (maxSteps:=1000000) (disch:=omega) only [rg,gD,simprocAttr,decide_eq_false c7]
    (refine fin_x rfl ?_ ?_<;>simp [pack,lo,loL,V.closed,closedL,mv_closed,no (fun h => h.rdags) c7])
  by_cases c8:Rise (runsN w.runs)
  case neg =>
    simp (maxSteps:=1000000) (disch:=omega) only [rg,gD,simprocAttr,c11,wdV,c1,c2',c3,c4',mv_len,show ¬ (16:Int) < w.dags.length by omega,show ¬ (64:Int) < w.runs.length by omega]
    refine ⟨_,hd, ?_⟩
    simp (maxSteps:=1000000) (disch:=omega) only [rg,gD,simprocAttr]
    refine ⟨_,hdr, ?_⟩
    simp (maxSteps:=1000000) (disch:=omega) only [rg,gD,simprocAttr,decide_eq_true c7]
    refine ⟨_,hr, ?_⟩
    simp (maxSteps:=1000000) (disch:=omega) only [rg,gD,simprocAttr]
    refine ⟨_,hrr, ?_⟩
    simp (maxSteps:=1000000) (disch:=omega) only [rg,gD,simprocAttr,decide_eq_false c8]
    (refine fin_x rfl ?_ ?_<;>simp [pack,lo,loL,V.closed,closedL,mv_closed,no (fun h => h.rruns) c8])
  simp (maxSteps:=1000000) (disch:=omega) only [rg,gD,simprocAttr,c11,wdV,c1,c2',c3,c4',mv_len,show ¬ (16:Int) < w.dags.length by omega,show ¬ (64:Int) < w.runs.length by omega]
  refine ⟨_,hd, ?_⟩
  simp (maxSteps:=1000000) (disch:=omega) only [rg,gD,simprocAttr]
  refine ⟨_,hdr, ?_⟩
  simp (maxSteps:=1000000) (disch:=omega) only [rg,gD,simprocAttr,decide_eq_true c7]
  refine ⟨_,hr, ?_⟩
  simp (maxSteps:=1000000) (disch:=omega) only [rg,gD,simprocAttr]
  refine ⟨_,hrr, ?_⟩
  simp (maxSteps:=1000000) (disch:=omega) only [rg,gD,simprocAttr,decide_eq_true c8]
  refine ⟨_,_,_,_,con_dags (rows:=w.dags) (q:=fun d => decide (dagRightS d≠0)) (g:=29) (by omega) (fun x hx => right_clo1 x (ok.dag x hx)), ?_⟩
  cases c9:(w.dags.any fun d => decide (dagRightS d≠0)) with
  | true =>
    simp (maxSteps:=1000000) (disch:=omega) only [rg,gD,simprocAttr]
    (refine fin_x rfl ?_ ?_<;>simp [pack,lo,loL,V.closed,closedL,mv_closed,no (fun h => h.dags) (any_bad.1 c9)])
  | false =>
  have c9':∀ d∈w.dags,dagRightS d=0:=fun d hd => by
    have:=List.any_eq_false.1 c9 d hd
    simpa using this
  simp (maxSteps:=1000000) (disch:=omega) only [rg,gD,simprocAttr,Nat.mul_zero,Nat.add_zero,mv_len]
  refine x_it w.runs.length (fun k σ H => 2≤H.n∧H.m 0=some (.arr 4 [wdV w])∧H.m 1=some (.mp (tkM (toksR (w.runs.take k))))∧(∀ r∈w.runs.take k,r.dag∈w.dags∧RnR r)∧Tk w.token (toksR (w.runs.take k)) ∧
    σ=[(1,.ptr 0 0 0),(3,.map 1),(57,.fsl .loose 5 (mv rnV w.runs)),(58,.int .i64 (w.runs.length:Int)),(59,.int .i64 (k:Int))]) ⟨Nat.le_refl 2,by simp [upd,wdV],by simp [upd,toksR,tkM],by simp,by simpa [toksR] using Tk.nil _,rfl⟩ ?_
  rintro T k σ ⟨n,m⟩ hkk ⟨hn,e0,e1,hok,htk,rfl⟩ hN hX hR
  simp only at hn e0 e1
  by_cases hk:k < w.runs.length
  case neg =>
    obtain rfl:k=w.runs.length:=by omega
    simp (maxSteps:=1000000) (disch:=omega) only [rg,gD,simprocAttr,Int.lt_irrefl]
    refine hX _ _ _ ?_
    simp (maxSteps:=1000000) (disch:=omega) only [rg,gD,simprocAttr]
    refine x_frz0 ?_
    simp (maxSteps:=1000000) (disch:=omega) only [rg,gD,simprocAttr]
    rw [List.take_length] at hok htk
    (refine fin_x rfl ?_ ?_<;>simp [pack,lo,loL,V.closed,closedL,mv_closed,decide_eq_true (show WR w from ⟨⟨by omega,by omega⟩,⟨by omega,by omega⟩,by omega,by omega,c7,c8,c9',hok,htk⟩)])
  obtain ⟨r,hrdef⟩:∃ r,r=w.runs[k]:=⟨_,rfl⟩
  have hmem:r∈w.runs:=by rw [hrdef]; exact List.getElem_mem hk
  have okr:=ok.run r hmem
  have hlb:=lb_rise c7 r.dag.name
  have hdm:=dag_mem (d:=r.dag) c7 rfl hlb
  have hfi:=dags_find r.dag.name w.dags (by omega) c7
  generalize lbS r.dag.name (dagsN w.dags)=i at hlb hdm hfi
  have hrun:=run_right' r okr
  have l0:(0:Nat)≠n:=by omega
  have l1:(1:Nat)≠n:=by omega
  have stay:2≤n+1:=by omega
  have bad:(WR w→False)→∀ σ' H',σ'=[(2,.bool false)]→T .ret σ' H':=fun hb σ' H' e => by
    subst e
    refine hR _ _ ?_
    simp (maxSteps:=1000000) (disch:=omega) only [rg,gD,simprocAttr]
    (refine fin_x rfl ?_ ?_<;>simp [pack,lo,loL,V.closed,closedL,mv_closed,decide_eq_false (show ¬ WR w from hb)])
  unfold wdV at e0
  simp (maxSteps:=1000000) (disch:=omega) only [rg,gD,simprocAttr,show (k:Int) < w.runs.length by omega,mv_get hk,← hrdef,rnV,e0]
  refine ⟨_,hd, ?_⟩
  simp (maxSteps:=1000000) (disch:=omega) only [rg,gD,simprocAttr]
  refine ⟨_,hfi, ?_⟩
  by_cases d1:r.dag.name∈dagsN w.dags
  case neg =>
    simp (maxSteps:=1000000) (disch:=omega) only [rg,gD,simprocAttr,decide_eq_false d1]
    refine bad (fun h => d1 (hdm.1 (h.runs r hmem).1).1) _ _ rfl
  obtain ⟨hil0,hin⟩:=(hlb.mem c7).1 d1
  have hil:i < w.dags.length:=by rw [dagsN_len] at hil0; exact hil0
  have hsa:=world_same w.dags[i] r.dag (ok.dag _ (List.getElem_mem hil)) ⟨okr.tasks,okr.needs⟩
  simp (maxSteps:=1000000) (disch:=omega) only [rg,gD,simprocAttr,decide_eq_true d1,e0,Int.toNat_natCast,mv_get hil,getC_dags]
  refine ⟨_,hsa, ?_⟩
  by_cases d2:w.dags[i]=r.dag
  case neg =>
    simp (maxSteps:=1000000) (disch:=omega) only [rg,gD,simprocAttr,decide_eq_false d2]
    refine bad (fun h => d2 (hdm.1 (h.runs r hmem).1).2.2) _ _ rfl
  simp (maxSteps:=1000000) (disch:=omega) only [rg,gD,simprocAttr,decide_eq_true d2]
  refine ⟨_,hrun, ?_⟩
  by_cases d3:RnR r
  case neg =>
    simp (maxSteps:=1000000) (disch:=omega) only [rg,gD,simprocAttr,decide_eq_false d3]
    refine bad (fun h => d3 (h.runs r hmem).2) _ _ rfl
  have hpre:WR w→∀ j,Tk w.token (toksR (w.runs.take k)++tokS (r.states.take j)):=fun h j => by
    have e1:toksR w.runs=toksR (w.runs.take k)++(tokS r.states++toksR (w.runs.drop (k+1))):=by
      conv => lhs; rw [← List.take_append_drop (k+1) w.runs]
      rw [toksR_app,toksR_take hk,← hrdef,List.append_assoc]
    have e2:tokS r.states=tokS (r.states.take j)++tokS (r.states.drop j):=by
      conv => lhs; rw [← List.take_append_drop j r.states]
      rw [tokS_app]
    have h3:=h.toks
    rw [e1,e2,List.append_assoc,← List.append_assoc] at h3
    exact h3.pre
  have hrs:=d3.small.2.1
  simp (maxSteps:=1000000) (disch:=omega) only [rg,gD,simprocAttr,decide_eq_true d3,sttsV,mv_len]
  refine x_it r.states.length (fun j σ H => 2≤H.n∧H.m 0=some (.arr 4 [wdV w])∧H.m 1=some (.mp (tkM (toksR (w.runs.take k)++tokS (r.states.take j))))∧Tk w.token (toksR (w.runs.take k)++tokS (r.states.take j)) ∧
    σ=[(1,.ptr 0 0 0),(3,.map 1),(57,.fsl .loose 5 (mv rnV w.runs)),(58,.int .i64 (w.runs.length:Int)),(59,.int .i64 (k:Int)),(91,.fsl .loose 5 (mv sttV r.states)),(92,.int .i64 (r.states.length:Int)),(93,.int .i64 (j:Int))])
    ⟨by simp only []; omega,(by simp (disch:=omega) only [upd_eq,upd_ne,wo_0,wo_1,wo_2,e0,wdV]),(by simp (disch:=omega) only [upd_eq,upd_ne,wo_0,wo_1,wo_2,e1,List.take_zero,tokS,List.map_nil,List.append_nil]),by simpa [tokS] using htk,rfl⟩ ?_
  rintro T2 j σ ⟨n2,m2⟩ hjj ⟨hn2,f0,f1,hj3,rfl⟩ hN2 hX2 hR2
  simp only at hn2 f0 f1
  by_cases hj:j < r.states.length
  · have hsn:=tokS_snoc hj
    have htok:=tkM_ok (toksR (w.runs.take k)++tokS (r.states.take j)) r.states[j].token
    have htr:=tkM_res (toksR (w.runs.take k)++tokS (r.states.take j)) r.states[j].token
    have hup:=tkM_upd (toksR (w.runs.take k)++tokS (r.states.take j)) r.states[j].token
    have hst:=Tk.snoc (tok:=w.token) (t:=r.states[j].token) (l:=toksR (w.runs.take k)++tokS (r.states.take j))
    rw [List.append_assoc,← hsn] at hst hup
    have m0:(0:Nat)≠n2:=by omega
    have m1:(1:Nat)≠n2:=by omega
    unfold wdV at f0
    have bad2:¬ (r.states[j].token≤w.token∧¬ (0 < r.states[j].token∧r.states[j].token∈toksR (w.runs.take k)++tokS (r.states.take j)))→∀ σ' H',σ'=[(2,.bool false)]→T2 .ret σ' H':=fun hb σ' H' e => by
      refine hR2 _ _ ?_
      simp (maxSteps:=1000000) (disch:=omega) only [rg,gD,simprocAttr]
      exact bad (fun h => hb (hst.1 (hpre h (j+1))).2) _ _ e
    by_cases g1:w.token < r.states[j].token
    · simp (maxSteps:=1000000) (disch:=omega) only [rg,gD,simprocAttr,show (j:Int) < r.states.length by omega,mv_get hj,sttV,f0,f1,g1]
      exact bad2 (fun h => by omega) _ _ rfl
    · by_cases g2:0 < r.states[j].token
      · by_cases g3:r.states[j].token∈toksR (w.runs.take k)++tokS (r.states.take j)
        · rw [decide_eq_true g3] at htr
          simp (maxSteps:=1000000) (disch:=omega) only [rg,gD,simprocAttr,show (j:Int) < r.states.length by omega,mv_get hj,sttV,f0,f1,g1,g2,htr]
          refine ⟨htok, ?_⟩
          exact bad2 (fun h => h.2 ⟨g2,g3⟩) _ _ rfl
        · rw [decide_eq_false g3] at htr
          simp (maxSteps:=1000000) (disch:=omega) only [rg,gD,simprocAttr,show (j:Int) < r.states.length by omega,mv_get hj,sttV,f0,f1,g1,g2,htr,hup]
          refine ⟨htok,htok, ?_⟩
          exact hN2 _ _ hj ⟨by show 2≤n2+1; omega,(by simp (disch:=omega) only [upd_eq,upd_ne,wo_0,wo_1,wo_2,f0,wdV]),(by simp (disch:=omega) only [upd_eq,upd_ne,wo_0,wo_1,wo_2]),hst.2 ⟨hj3,by omega,fun h => g3 h.2⟩,rfl⟩
      · simp (maxSteps:=1000000) (disch:=omega) only [rg,gD,simprocAttr,show (j:Int) < r.states.length by omega,mv_get hj,sttV,f0,f1,g1,g2,hup]
        refine ⟨htok, ?_⟩
        exact hN2 _ _ hj ⟨by show 2≤n2+1; omega,(by simp (disch:=omega) only [upd_eq,upd_ne,wo_0,wo_1,wo_2,f0,wdV]),(by simp (disch:=omega) only [upd_eq,upd_ne,wo_0,wo_1,wo_2]),hst.2 ⟨hj3,by omega,fun h => g2 h.1⟩,rfl⟩
  · obtain rfl:j=r.states.length:=by omega
    simp (maxSteps:=1000000) (disch:=omega) only [rg,gD,simprocAttr,Int.lt_irrefl]
    refine hX2 _ _ _ ?_
    simp (maxSteps:=1000000) (disch:=omega) only [rg,gD,simprocAttr]
    refine x_frz0 ?_
    rw [List.take_length] at f1 hj3
    have e2:=toksR_take hk
    rw [← hrdef] at e2
    rw [← e2] at f1 hj3
    simp (maxSteps:=1000000) (disch:=omega) only [rg,gD,simprocAttr]
    refine hN _ _ hk ⟨hn2,f0,f1,fun x hx => ?_,hj3,rfl⟩
    rw [List.take_succ_eq_append_getElem hk,← hrdef] at hx
    rcases List.mem_append.1 hx with hx | hx
    · exact hok x hx
    · simp at hx; subst hx
      exact ⟨hdm.2 ⟨d1,hil,d2⟩,d3⟩
end
theorem Gro.snap {lo n:Nat} {m:Hm} {sz:Nat} {v:V} {l:List V} (h:Gro lo n m sz v l) (hc:closedL l=true) (k:Nat):∃ st,Ev.snap (k+1) m v=some (.fsl st sz l):=by
  rcases h with ⟨st,_,rfl,rfl⟩ | ⟨id,h1,h2,rfl,h3⟩
  · exact ⟨st,snap_cl rfl⟩
  · exact ⟨.loose,snap_sl h3 hc rfl⟩
abbrev lbD (t:Str) (l:List Dag):Nat:=lbS t (dagsN l)
theorem lb_at {K:List Str} (hr:Rise K) {g:Nat} (hg:g < K.length):lbS K[g] K=g:=by
  refine (IsLb.eq ⟨by omega,fun j hj hjg => rise_lt hr g j hg hjg,fun j hj hgj => ?_⟩).symm
  by_cases e:j=g
  · subst e; exact lt_irr _
  · exact lt_asy (rise_lt hr j g hj (by omega))
theorem lbD_at {l:List Dag} (hr:Rise (dagsN l)) {i:Nat} (hi:i < l.length):lbD l[i].name l=i∧l[i].name∈dagsN l:=by
  have hi':i < (dagsN l).length:=by rw [dagsN_len]; exact hi
  have:=lb_at hr hi'
  rw [dagsN_get] at this
  exact ⟨this,List.mem_map.2 ⟨_,List.getElem_mem hi,rfl⟩⟩
/-! Shapes. -/
theorem getC_wd (w:Wd):getC (some 4) 0 (wdV w)=some (wdV w):=rfl
theorem setC_wd (a b:Wd):setC (some 4) 0 (wdV a) (wdV b)=some (wdV b):=rfl
theorem setC_rn0 (b:Rn):setC (some 5) 0 zRV (rnV b)=some (rnV b):=rfl
theorem RL.cut {g:G}:∀ {l l':List V} {xs:List Value},RL g (l++l') xs→∃ az bs,xs=az++bs∧RL g l az∧RL g l' bs
  | [],l',xs,h => ⟨[],xs,rfl,by simp [RL],h⟩
  | v::vs,l',xs,h => by
    simp only [List.cons_append,RL] at h
    obtain ⟨y,ys,rfl,h1,h2⟩:=h
    obtain ⟨az,bs,rfl,p,q⟩:=RL.cut h2
    exact ⟨y.cells.toList++az,bs,by simp,by simp only [RL]; exact ⟨y,az,rfl,h1,p⟩,q⟩
theorem RS.sub {g:G} {m m':Hm} {w:World} (h:RS g m w) (hs:∀ id o,m' id=some o→m id=some o):RS g m' w :=
  ⟨h.fro,fun id o k => h.live id o (hs id o k),fun id id' o o' b s n s' n' k k' => h.inj id id' o o' b s n s' n' (hs _ _ k) (hs _ _ k')⟩
section
theorem ACall.res {P:Program} {f:Nat} {vs:List V} {H:Hp} {fp:List Nat} {r r':V} {ds:List (Nat×Option Ob)} {k:Nat} (h:ACall P f vs H fp r ds k) (hr:∀ (g:G) x,R g r x→R g r' x):ACall P f vs H fp r' ds k:=by
  refine ⟨h.1,h.2.1,fun m g w xs h1 h2 h3 h4 => (h.2.2 m g w xs h1 h2 h3 h4).mono ?_⟩
  rintro e w' ⟨x,g',k1,k2,k3⟩
  exact ⟨x,g',k1,hr _ _ k2,k3⟩
section
variable {P:Program}
end
end
def drU (w:Wd) (v1 v2:V) (c:Cmd):V:=.agg [.int .i64 w.now,.int .i64 w.token,v1,v2,.int .i64 c.kind,.str c.key,.str c.name,.int .i64 c.token,.int .i64 c.time,.str c.text,.str c.dag.name,tasksV c.dag.tasks]
def drV (w:Wd) (c:Cmd):V:=drU w (.fsl .loose 2 (mv dagV w.dags)) (.fsl .loose 5 (mv rnV w.runs)) c
theorem drV_closed (w:Wd) (c:Cmd):(drV w c).closed=true:=by simp [drV,drU,V.closed,closedL,mv_closed dagV_closed,mv_closed rnV_closed,tasksV_closed]
theorem drV_low (w:Wd) (c:Cmd) (n:Nat):(drV w c).low n=true:=V.low_closed _ (drV_closed w c)
abbrev DoC (f:Nat) (w:Wd) (c:Cmd) (p:Wd×Ans):Prop:=∀ (H:Hp) (id:Nat),id < H.n→H.m id=some (.arr 12 [drV w c])→∃ k,ACall Try.prog f [.ptr id 0 0] H [id] (ansV p.2) [(id,some (.arr 12 [drV p.1 c]))] k
structure Bx (H:Hp) (id q:Nat) (w:Wd) (c:Cmd):Prop where
  li:id < H.n
  lq:q < H.n
  ho:H.m id=some (.arr 12 [drV w c])
  hq:H.m q=some (.arr 1 [.ptr id 0 0])
theorem Bx.fp {H:Hp} {id q:Nat} {w:Wd} {c:Cmd} (h:Bx H id q w c):∀ j∈[q,id],j < H.n∧∀ o,H.m j=some o→o.low H.n=true:=by
  intro j hj
  simp at hj
  rcases hj with rfl | rfl
  · exact ⟨h.lq,fun o e => by rw [h.hq] at e; simp at e; subst e; simp [Ob.low,lowL,V.low,h.li]⟩
  · exact ⟨h.li,fun o e => by rw [h.ho] at e; simp at e; subst e; simp [Ob.low,lowL,drV_low]⟩
theorem ACall.more {P:Program} {f:Nat} {vs:List V} {H:Hp} {fp:List Nat} {r:V} {ds:List (Nat×Option Ob)} {k k':Nat} (h:ACall P f vs H fp r ds k) (hk:k≤k'):ACall P f vs H fp r ds k':=by
  refine ⟨h.1,fun p hp => (h.2.1 p hp).imp (fun h => h) (fun h => ⟨h.1,by omega⟩),fun m g w xs h1 h2 h3 h4 => (h.2.2 m g w xs h1 (fun i a b => h2 i a (by omega)) h3 h4).mono ?_⟩
  rintro e w' ⟨x,g',k1,k2,k3,k4,k5⟩
  exact ⟨x,g',k1,k2,k3,fun i hi => k4 i (fun hh => hi ⟨hh.1,by omega⟩),k5⟩
abbrev Same (w:Wd) (p:Wd×Ans):Prop:=p.2.why≠0→p.1=w
theorem Same.w {w:Wd} {a:Ans}:Same w (w,a):=fun _ => rfl
theorem Same.z {w w':Wd} {a:Ans} (h:a.why=0):Same w (w',a):=fun hh => absurd h hh
theorem DoC.call {f:Nat} {w:Wd} {c:Cmd} {p:Wd×Ans} (h:DoC f w c p) {H:Hp} {id:Nat} {K:KI} (hid:id < H.n) (ho:H.m id=some (.arr 12 [drV w c])) (hk:∀ k,K (ansV p.2) [id] [(id,some (.arr 12 [drV p.1 c]))] k):CallA Try.prog f [.ptr id 0 0] H K:=by
  obtain ⟨k,h1⟩:=h H id hid ho
  exact ⟨_,_,_,_,h1,hk k⟩
abbrev resOk (s:Stt):Prop:=s.result.length≤4611686018427387904
structure Shr (r r':Rn):Prop where
  shp:Shp r r'
  res:∀ s∈r'.states,resOk s
theorem Shr.ok {r r':Rn} (h:Shr r r') (ok:RnOk r) (hr:RnR r):RnOk r'∧RnL r':=by
  obtain ⟨h1,h2,h3,h4⟩:=hr.small
  refine ⟨⟨by rw [h.shp.key]; exact ok.key,by rw [h.shp.dag]; exact ok.needs,by rw [h.shp.dag]; exact ok.tasks,by rw [h.shp.len]; exact ok.states,h.res⟩,⟨?_,by rw [h.shp.len]; omega⟩⟩
  rw [h.shp.dag]; exact ⟨ok.tasks,ok.needs⟩
structure WdM (w:Wd):Prop where
  ok:WdOk w
  run:∀ r∈w.runs,RnL r
theorem WdM.L {w:Wd} (h:WdM w):WdL w:=⟨by have:=h.ok.dags; omega,by have:=h.ok.runs; omega,h.ok.dag,h.run⟩
theorem WdM.set {w w':Wd} {i:Nat} {r:Rn} (h:WdM w) (e1:w'.dags=w.dags) (e2:w'.runs=w.runs.set i r) (h1:RnOk r) (h2:RnL r):WdM w':=by
  have hm:∀ x∈w'.runs,x∈w.runs∨x=r:=fun x hx => by rw [e2] at hx; exact List.mem_or_eq_of_mem_set hx
  refine ⟨⟨by rw [e1]; exact h.ok.dags,by rw [e2,List.length_set]; exact h.ok.runs,by rw [e1]; exact h.ok.dag,fun x hx => ?_⟩,fun x hx => ?_⟩
  · rcases hm x hx with hx | rfl
    · exact h.ok.run x hx
    · exact h1
  · rcases hm x hx with hx | rfl
    · exact h.run x hx
    · exact h2
structure WdA (w:Wd):Prop where
  dags:w.dags.length≤4611686018427387904
  runs:w.runs.length≤4611686018427387904
  dag:∀ d∈w.dags,okDagL d
  run:∀ r∈w.runs,RnOk r
def zW:Wd:=⟨0,0,[],[]⟩
def bigD (d:Dag):Bool:=decide (20 < d.tasks.length)
def bigR (r:Rn):Bool:=decide (20 < r.states.length) || decide (20 < r.dag.tasks.length)
def cutW (w:Wd):Wd:={ w with dags:=w.dags.take 20,runs:=w.runs.take 70 }
def fewS (w:Wd):Wd:=if (cutW w).dags.any bigD=true then zW else if (cutW w).runs.any bigR=true then zW else cutW w
theorem zW_M:WdM zW:=⟨⟨by simp [zW],by simp [zW],by simp [zW],by simp [zW]⟩,by simp [zW]⟩
theorem few_M {w:Wd} (h:WdA w):WdM (fewS w):=by
  unfold fewS
  split
  · exact zW_M
  split
  · exact zW_M
  · rename_i h1 h2
    simp only [Bool.not_eq_true,List.any_eq_false] at h1 h2
    refine ⟨⟨by simp [cutW]; omega,by simp [cutW]; omega,fun d hd => h.dag d (List.mem_of_mem_take hd),fun r hr => h.run r (List.mem_of_mem_take hr)⟩,fun r hr => ?_⟩
    have h3:=h2 r hr
    have h4:=h.run r (List.mem_of_mem_take hr)
    simp [bigR] at h3
    exact ⟨⟨h4.tasks,h4.needs⟩,by omega⟩
theorem reach_le:reachBytes≤4611686018427387904:=by decide
def yDag:Ty:=.st (fDag .nil)
def yDags:Ty:=.l 2 40 yDag
def yRn:Ty:=.st (.cons .s (.cons yDag (.cons yI (.cons ySts .nil))))
def yRns:Ty:=.l 5 88 yRn
def tWd:Ty:=.st (.cons yI (.cons yI (.cons yDags (.cons yRns .nil))))
theorem dag_ok0 {d:Dag} (h:okDag d):okDagL d:=by
  have hr:=reach_le
  obtain ⟨g1,g2,g3⟩:=h
  exact ⟨by omega,fun t ht => by obtain ⟨_,z2,_⟩:=g3 t ht; omega⟩
theorem yDag_of {us:List V} (h:TyV yDag us):∃ d,el yDag us=dagV d∧okDag d:=by
  obtain ⟨d,ws,rfl,q,hw⟩:=fDag_of (r:=.nil) h
  obtain rfl:ws=[]:=hw
  exact ⟨d,rfl,q⟩
theorem yRn_of {us:List V} (h:TyV yRn us):∃ r,el yRn us=rnV r∧RnOk r:=by
  obtain ⟨u1,w1,rfl,h1,u2,w2,rfl,h2,u3,w3,rfl,h3,u4,w4,rfl,h4,rfl⟩:=h
  obtain ⟨k,rfl,qk⟩:=yS_of h1
  obtain ⟨d,ws,rfl,qd,hw⟩:=fDag_of (r:=.nil) h2
  obtain rfl:ws=[]:=hw
  obtain ⟨i,rfl,qi⟩:=yI_of h3
  obtain ⟨l,rfl,q1,q2⟩:=ySts_of h4
  have hr:=reach_le
  have hd:=dag_ok0 qd
  refine ⟨⟨k,d,i,l⟩,rfl,⟨Nat.le_trans qk hr,hd.2,hd.1,by simp only; omega,fun s hs => ?_⟩⟩
  obtain ⟨z1,z2,z3,z4,z5⟩:=q2 s hs
  exact Nat.le_trans z5 hr
theorem wd_of {vs:List V} (h:TyV tWd vs):∃ w:Wd,vs=[.int .i64 w.now,.int .i64 w.token,.fsl .loose 2 (mv dagV w.dags),.fsl .loose 5 (mv rnV w.runs)]∧WdA w:=by
  obtain ⟨u1,w1,rfl,h1,u2,w2,rfl,h2,u3,w3,rfl,h3,u4,w4,rfl,h4,rfl⟩:=h
  obtain ⟨a,rfl,qa⟩:=yI_of h1
  obtain ⟨b,rfl,qb⟩:=yI_of h2
  obtain ⟨ds,rfl,q1,q2⟩:=list_of (e:=yDag) (f:=dagV) (q:=okDag) (fun us hu => yDag_of hu) h3
  obtain ⟨rs,rfl,q3,q4⟩:=list_of (e:=yRn) (f:=rnV) (q:=RnOk) (fun us hu => yRn_of hu) h4
  have hr:=reach_le
  exact ⟨⟨a,b,ds,rs⟩,rfl,by simp only; omega,by simp only; omega,fun d hd => dag_ok0 (q2 d hd),q4⟩
theorem Gro.id {lo n:Nat} {m:Hm} {sz:Nat} {l:List V} {p k:Nat} (h:Gro lo n m sz (.sl p 0 k) l):lo≤p∧p < n:=by
  rcases h with ⟨st,_,e,_⟩ | ⟨id,h1,h2,e,_⟩
  · cases e
  · simp at e; rw [e.1]; exact ⟨h1,h2⟩
theorem add_call {H:Hp} {b lo:Nat} {v:V} {l:List Pr} (k x:Str) (hb:b < lo) (hlo:lo≤H.n) (hm:H.m b=some (.arr 1 [v])) (hg:Gro lo H.n H.m 2 v (mv prV l)) (hl:l.length≤1000000) :
    ∃ v' fp ds,ACall Try.prog 13 [.str k,.str x,.ptr b 0 0] H fp (.tup []) ds 1∧Gro H.n (H.n+1) (appd ds H.m) 2 v' (mv prV (l++[(k,x)]))∧appd ds H.m b=some (.arr 1 [v']) ∧
      ∀ id,id < H.n→id≠b→(∀ q,v≠.sl id 0 q)→appd ds H.m id=H.m id:=by
  rcases hg with ⟨st,h0,rfl,hst⟩ | ⟨id,h1,h2,rfl,h3⟩
  · have hl0:l=[]:=by cases l<;>simp [mv] at hst ⊢
    subst hl0
    refine ⟨.sl H.n 0 1,[b],[(b,some (.arr 1 [.sl H.n 0 1])),(H.n,some (.arr 2 [prV (k,x)]))], ?_,  .inr ⟨H.n,Nat.le_refl _,by simp,by simp [mv],by simp [appd,upd,mv]⟩, ?_,fun id hid hne hnr => ?_⟩
    · refine ena13 (by simp) (by simp [lowL,V.low]; omega) (fun id hid => ?_) (by simp) ?_
      · simp at hid; subst hid
        exact ⟨by omega,fun o ho => by rw [hm] at ho; simp at ho; subst ho; rfl⟩
      have q1:only [b] H.m b=some (.arr 1 [.fsl st 2 []]):=by simp [only,hm]
      simp (maxSteps:=1000000) (disch:=omega) only [rg,gD,simprocAttr,c13,q1]
      unfold appO
      refine ⟨⟨rfl,rfl,h0,by simp⟩, ?_⟩
      rw [x_nx]
      refine ⟨by simp only [compat_nil], ?_⟩
      simp (maxSteps:=1000000) (disch:=omega) only [rg,gD,simprocAttr,q1]
      refine fin_An (l:=[]) rfl (.inl rfl) (by simp) (fun i => .inr ?_)
      by_cases e1:i=b
      · subst e1; have:i≠H.n:=by omega
        simp [appd,upd,this,mv]
      · by_cases e2:i=H.n
        · subst e2; simp [appd,upd,e1,prV,mv]
        · simp [appd,upd,e1,e2]
    · have:b≠H.n:=by omega
      simp [appd,upd,this]
    · have:id≠H.n:=by omega
      simp [appd,upd,this,hne]
  · rw [mv_len] at *
    have hne1:b≠id:=by omega
    refine ⟨.sl H.n 0 (l.length+1),[b,id],[(b,some (.arr 1 [.sl H.n 0 (l.length+1)])),(id,none),(H.n,some (.arr 2 (mv prV (l++[(k,x)]))))], ?_,  .inr ⟨H.n,Nat.le_refl _,by simp,by simp [mv],by simp [appd,upd]⟩, ?_,fun i hid hne hnr => ?_⟩
    · refine ena13 (by simp) (by simp [lowL,V.low]; omega) (fun i hid => ?_) (by simp) ?_
      · simp at hid
        rcases hid with rfl | rfl
        · exact ⟨by omega,fun o ho => by rw [hm] at ho; simp at ho; subst ho; simp [Ob.low,lowL,V.low,h2]⟩
        · exact ⟨h2,fun o ho => by rw [h3] at ho; simp at ho; subst ho; exact lowL_closed _ (mv_closed prV_closed)⟩
      have q1:only [b,id] H.m b=some (.arr 1 [.sl id 0 l.length]):=by simp [only,hm]
      have q2:only [b,id] H.m id=some (.arr 2 (mv prV l)):=by simp [only,h3]
      simp (maxSteps:=1000000) (disch:=omega) only [rg,gD,simprocAttr,c13,q1]
      unfold appO
      simp only [q2]
      refine ⟨⟨rfl,trivial,trivial,by rw [mv_len]; exact Nat.le_refl _,by simp; omega⟩, ?_⟩
      rw [x_nx]
      refine ⟨by simp only [compat_nil], ?_⟩
      have e0:List.take l.length (mv prV l)++[V.agg [V.str k,V.str x]]=mv prV (l++[(k,x)]):=by
        rw [List.take_of_length_le (by rw [mv_len]; exact Nat.le_refl _)]; simp [mv,prV]
      rw [e0]
      simp (maxSteps:=1000000) (disch:=omega) only [rg,gD,simprocAttr,q1]
      refine fin_An (l:=[]) rfl (.inl rfl) (by simp) (fun i => ?_)
      by_cases e1:i=b
      · subst e1
        have n1:i≠H.n:=by omega
        exact .inr (by simp [appd,upd,hne1,n1,Ne.symm n1,Ne.symm hne1])
      · by_cases e2:i=id
        · subst e2
          have n1:i≠H.n:=by omega
          exact .inl (by simp [appd,upd,n1])
        · by_cases e3:i=H.n
          · subst e3; exact .inr (by simp [appd,upd,e1])
          · exact .inr (by simp [appd,upd,e1,e2,e3])
    · have:b≠H.n:=by omega
      simp [appd,upd,this,hne1,Ne.symm hne1]
    · have e1:i≠H.n:=by omega
      have e2:i≠id:=fun e => hnr _ (by rw [e])
      simp [appd,upd,e1,e2,hne]
theorem Gro.low {lo lo' n:Nat} {m:Hm} {sz:Nat} {v:V} {l:List V} (h:Gro lo' n m sz v l) (hl:lo≤lo'):Gro lo n m sz v l :=
  h.imp (fun h => h) fun ⟨i,a,b,c,d⟩ => ⟨i,Nat.le_trans hl a,b,c,d⟩
theorem Gro.not {lo n:Nat} {m:Hm} {sz:Nat} {v:V} {l:List V} (h:Gro lo n m sz v l) {i:Nat} (hi:i < lo∨n≤i) (q:Nat):v≠.sl i 0 q:=by
  rintro rfl; have:=h.id; omega
theorem add_step {H:Hp} {b lo:Nat} {v:V} {l:List Pr} {k x:Str} {Q:V→List Nat→List (Nat×Option Ob)→Nat→Prop} (hb:b < lo) (hlo:lo≤H.n) (hm:H.m b=some (.arr 1 [v])) (hg:Gro lo H.n H.m 2 v (mv prV l)) (hl:l.length≤1000000)
    (h:∀ v' fp ds,Gro H.n (H.n+1) (appd ds H.m) 2 v' (mv prV (l++[(k,x)]))→appd ds H.m b=some (.arr 1 [v'])→(∀ id,id < H.n→id≠b→(∀ q,v≠.sl id 0 q)→appd ds H.m id=H.m id)→Q (.tup []) fp ds 1) :
    ∃ fp r ds k',ACall Try.prog 13 [.str k,.str x,.ptr b 0 0] H fp r ds k'∧Q r fp ds k':=by
  obtain ⟨v',fp,ds,hA,h1,h2,h3⟩:=add_call k x hb hlo hm hg hl
  exact ⟨fp,_,ds,1,hA,h v' fp ds h1 h2 h3⟩
theorem rows_number (n k:Int) (hn:n≤9223372036854775807):PCall Try.prog 16 [.int .i64 n,.int .i64 k] (.str (putS n k).1):=by
  refine en16 (by simp) (by simp [closedL,V.closed]) ?_
  simp (maxSteps:=1000000) (disch:=omega) only [rg,gD,simprocAttr,c16]
  refine ⟨_,code_put n k hn, ?_⟩
  simp (maxSteps:=1000000) (disch:=omega) only [rg,gD,simprocAttr,sV]
  (refine fin_x rfl ?_ ?_<;>simp [pack,lo,loL,V.closed,closedL,mv_closed])
section
set_option maxRecDepth 100000
def ren_sort:Go.Shelf.Ren:=⟨fun x => match x with | 6 => 19 | 15 => 41 | 14 => 40 | 28 => 78 | 29 => 79 | 20 => 70 | 21 => 71 | 22 => 72 | 23 => 73 | 24 => 74 | 25 => 75 | 26 => 76 | 27 => 77 | 46 => 90 | 47 => 91 | 48 => 92 | 49 => 93 | 50 => 94 | 57 => 100 | n => n,fun x => match x with | 22 => 27 | 24 => 39 | 25 => 59 | 3 => 3 | 39 => 95 | 0 => 0 | 53 => 142 | 55 => 144 | 4 => 4 | 46 => 136 | 45 => 135 | 50 => 76 | 5 => 5 | 9 => 9 | 66 => 157 | 70 => 153 | 76 => 167 | 77 => 168 | n => n,fun x => match x with | n => n⟩
theorem lays_sort:SlLaysF0.n6 Try.prog ren_sort where
  mixed:=by kernel_rfl
  f6:=⟨"slices.SortFunc[[]penelope/api.Pair,penelope/api.Pair]",by decide,Try.func19.trans (congrArg some (by kernel_rfl))⟩
  f14:=⟨"slices.pdqsortCmpFunc[penelope/api.Pair]",by decide,Try.func40.trans (congrArg some (by kernel_rfl))⟩
  f15:=Try.func41.trans (congrArg some (by kernel_rfl))
  f20:=⟨"slices.insertionSortCmpFunc[penelope/api.Pair]",by decide,Try.func70.trans (congrArg some (by kernel_rfl))⟩
  f21:=⟨"slices.heapSortCmpFunc[penelope/api.Pair]",by decide,Try.func71.trans (congrArg some (by kernel_rfl))⟩
  f22:=⟨"slices.breakPatternsCmpFunc[penelope/api.Pair]",by decide,Try.func72.trans (congrArg some (by kernel_rfl))⟩
  f23:=⟨"slices.choosePivotCmpFunc[penelope/api.Pair]",by decide,Try.func73.trans (congrArg some (by kernel_rfl))⟩
  f24:=⟨"slices.reverseRangeCmpFunc[penelope/api.Pair]",by decide,Try.func74.trans (congrArg some (by kernel_rfl))⟩
  f25:=⟨"slices.partialInsertionSortCmpFunc[penelope/api.Pair]",by decide,Try.func75.trans (congrArg some (by kernel_rfl))⟩
  f26:=⟨"slices.partitionEqualCmpFunc[penelope/api.Pair]",by decide,Try.func76.trans (congrArg some (by kernel_rfl))⟩
  f27:=⟨"slices.partitionCmpFunc[penelope/api.Pair]",by decide,Try.func77.trans (congrArg some (by kernel_rfl))⟩
  f28:=Try.func78.trans (congrArg some (by kernel_rfl))
  f29:=Try.func79.trans (congrArg some (by kernel_rfl))
  f46:=⟨"slices.siftDownCmpFunc[penelope/api.Pair]",by decide,Try.func90.trans (congrArg some (by kernel_rfl))⟩
  f47:=Try.func91.trans (congrArg some (by kernel_rfl))
  f48:=Try.func92.trans (congrArg some (by kernel_rfl))
  f49:=⟨"slices.medianAdjacentCmpFunc[penelope/api.Pair]",by decide,Try.func93.trans (congrArg some (by kernel_rfl))⟩
  f50:=⟨"slices.medianCmpFunc[penelope/api.Pair]",by decide,Try.func94.trans (congrArg some (by kernel_rfl))⟩
  f57:=⟨"slices.order2CmpFunc[penelope/api.Pair]",by decide,Try.func100.trans (congrArg some (by kernel_rfl))⟩
  t0:=Try.underlying0
  a0:=Try.isAgg0
  z0:=Try.sizeOf0
  v0:=Try.zeroValue0
  t3:=Try.underlying3
  a3:=Try.isAgg3
  z3:=Try.sizeOf3
  v3:=Try.zeroValue3
  t4:=Try.underlying4
  a4:=Try.isAgg4
  z4:=Try.sizeOf4
  v4:=Try.zeroValue4
  t5:=Try.underlying5
  a5:=Try.isAgg5
  z5:=Try.sizeOf5
  v5:=Try.zeroValue5
  t9:=Try.underlying9
  a9:=Try.isAgg9
  z9:=Try.sizeOf9
  v9:=Try.zeroValue9
  t22:=Try.underlying27
  a22:=Try.isAgg27
  z22:=Try.sizeOf27
  v22:=Try.zeroValue27
  t25:=Try.underlying59
  a25:=Try.isAgg59
  z25:=Try.sizeOf59
  v25:=Try.zeroValue59
  t39:=Try.underlying95
  a39:=Try.isAgg95
  z39:=Try.sizeOf95
  v39:=Try.zeroValue95
  t45:=Try.underlying135
  a45:=Try.isAgg135
  z45:=Try.sizeOf135
  v45:=Try.zeroValue135
  t46:=Try.underlying136
  a46:=Try.isAgg136
  z46:=Try.sizeOf136
  v46:=Try.zeroValue136
  t50:=Try.underlying76
  a50:=Try.isAgg76
  z50:=Try.sizeOf76
  v50:=Try.zeroValue76
  t53:=Try.underlying142
  a53:=Try.isAgg142
  z53:=Try.sizeOf142
  v53:=Try.zeroValue142
  t55:=Try.underlying144
  a55:=Try.isAgg144
  z55:=Try.sizeOf144
  v55:=Try.zeroValue144
  t66:=Try.underlying157
  a66:=Try.isAgg157
  z66:=Try.sizeOf157
  v66:=Try.zeroValue157
  t70:=Try.underlying153
  a70:=Try.isAgg153
  z70:=Try.sizeOf153
  v70:=Try.zeroValue153
  t76:=Try.underlying167
  a76:=Try.isAgg167
  z76:=Try.sizeOf167
  v76:=Try.zeroValue167
  t77:=Try.underlying168
  a77:=Try.isAgg168
  z77:=Try.sizeOf168
  v77:=Try.zeroValue168
def ren_cmp:Go.Shelf.Ren:=⟨fun x => match x with | 106 => 21 | 213 => 42 | 265 => 80 | n => n,fun x => match x with | 9 => 9 | 3 => 3 | n => n,fun x => match x with | n => n⟩
theorem lays_cmp:Lays.n106 Try.prog ren_cmp where
  mixed:=by kernel_rfl
  f106:=Try.func21.trans (congrArg some (by kernel_rfl))
  f213:=Try.func42.trans (congrArg some (by kernel_rfl))
  f265:=Try.func80.trans (congrArg some (by kernel_rfl))
  t3:=Try.underlying3
  a3:=Try.isAgg3
  z3:=Try.sizeOf3
  v3:=Try.zeroValue3
  t9:=Try.underlying9
  a9:=Try.isAgg9
  z9:=Try.sizeOf9
  v9:=Try.zeroValue9
end
section
open Go Go.Sort Go.Shelf Go.RowKit
set_option maxHeartbeats 1000000 in
theorem cmp_clo (x y:Pr) (W:World):Calls Try.prog 20 #[.agg (encP x).toArray,.agg (encP y).toArray] W fun e w' => e=.returned (.int .i64 (cmpP x y))∧∃ q os',w'=grow (W.drewN q) os':=by
  obtain ⟨x1,x2⟩:=x
  obtain ⟨y1,y2⟩:=y
  have hcon:=fun W' => Any.strings_Compare lays_cmp ⟨x1.toArray⟩ ⟨y1.toArray⟩ W'
  change ∀ W',Calls Try.prog 21 _ _ _ at hcon
  have e:cmpP (x1,x2) (y1,y2)=Lib.compareBytes x1 y1:=rfl
  simp only [] at hcon
  rw [e]
  generalize Lib.compareBytes x1 y1=r at hcon ⊢
  simp only [encP]
  go_enter Try.func20,Try.ntmps20
  go_wp2_with (go_at_call 21; refine (hcon _).mono ?_; rintro e w' ⟨rfl,rfl⟩)
  go_ret
  exact ⟨rfl,0,_,by rw [alloc_eq_grow,alloc_eq_grow,grow_grow]; rfl⟩
theorem sort_has:HasBody Try.prog 19:=⟨_,Try.func19,by kernel_rfl,by kernel_rfl⟩
theorem cmp_enters:∀ args w,(callFunc 20 args).run Try.prog w=.ok (.enter 20 args) w:=enters_of Try.func20 (by kernel_rfl) rfl
theorem rows_sort {H:Hp} {id:Nat} {l:List Pr} (hm:H.m id=some (.arr 2 (mv prV l))) (hne:l≠[]) (hl:l.length < 4611686018427387904) :
    ACall Try.prog 19 [.sl id 0 l.length,.fn 20 [] []] H [id] (.tup []) [(id,some (.arr 2 (mv prV (sortP cmpP l))))] 0 :=
  sort_acall lays_sort (Try.isAgg39) (Try.sizeOf39) sort_has cmpP_swo cmp_enters cmp_clo hm hne hl
theorem rows_sort0 (st:St) (H:Hp) (f:V):ACall Try.prog 19 [.fsl st 2 [],f] H [] (.tup []) [] 0:=(sort_none lays_sort sort_has f st).toA H []
theorem rows_sort1 (ii:Nat) (H:Hp) (f:V):ACall Try.prog 19 [.sl ii 0 0,f] H [] (.tup []) [] 0:=sort_none_sl lays_sort sort_has f ii H
end
theorem rise_nodup {l:List Str} (h:Rise l):l.Nodup:=by
  refine List.pairwise_iff_getElem.2 fun i j hi hj hij => ?_
  exact lt_ne (rise_lt h j i hj hij)
theorem keysP_app (a b:List Pr):keysP (a++b)=keysP a++keysP b:=by simp [keysP]
theorem runs_disj {r r':Rn} (hs:r.states.length≤200) (hs':r'.states.length≤200) {k:Str} (h:k∈keysP (runPrs r)) (h':k∈keysP (runPrs r')):r.key=r'.key:=by
  rcases (runPrs_keys hs).2 k h with rfl | ⟨i,hi,rfl⟩<;>rcases (runPrs_keys hs').2 _ h' with e | ⟨j,hj,e⟩
  · simpa using e
  · simp at e
  · simp at e
  · have hl:=congrArg List.length e
    simp only [List.length_append,put1_len (show i < 256 by omega),put1_len (show j < 256 by omega),List.length_singleton] at hl
    rw [List.append_assoc,List.append_assoc] at e
    have e2:=List.append_cancel_left e
    exact (List.append_inj e2 (by omega)).1
theorem runs_keys:∀ {l:List Rn},(runsN l).Nodup→(∀ r∈l,r.states.length≤200)→(keysP (runsPr l)).Nodup∧∀ k∈keysP (runsPr l),∃ r∈l,k∈keysP (runPrs r)
  | [],_,_ => by simp [runsPr,keysP]
  | r::l,hn,hs => by
    simp only [runsN,List.map_cons,List.nodup_cons] at hn
    obtain ⟨i1,i2⟩:=runs_keys (l:=l) hn.2 (fun x hx => hs x (by simp [hx]))
    have e:runsPr (r::l)=runPrs r++runsPr l:=by simp [runsPr]
    rw [e,keysP_app]
    refine ⟨List.nodup_append.2 ⟨(runPrs_keys (hs r (by simp))).1,i1,fun k hk k' hk' e => ?_⟩,fun k hk => ?_⟩
    · subst e
      obtain ⟨r',hr',hk2⟩:=i2 k hk'
      have:=runs_disj (hs r (by simp)) (hs r' (by simp [hr'])) hk hk2
      exact hn.1 (List.mem_map.2 ⟨r',hr',this.symm⟩)
    · rcases List.mem_append.1 hk with hk | hk
      · exact ⟨r,by simp,hk⟩
      · obtain ⟨r',hr',h⟩:=i2 k hk; exact ⟨r',by simp [hr'],h⟩
theorem runs_first {l:List Rn} {k:Str} (hs:∀ r∈l,r.states.length≤200) (hn:(runsN l).Nodup) (h:k∈keysP (runsPr l)):∃ t,k=114::t∨k=116::t:=by
  obtain ⟨r,hr,hk⟩:=(runs_keys hn hs).2 k h
  rcases (runPrs_keys (hs r hr)).2 k hk with rfl | ⟨i,_,rfl⟩
  · exact ⟨_,.inl rfl⟩
  · exact ⟨r.key++(putS (i:Int) 1).1,.inr (by simp)⟩
theorem WR.few {w:Wd} (h:WR w):∀ r∈w.runs,r.states.length≤10:=fun r hr => by
  have h2:=(h.runs r hr).2
  rw [h2.len]; exact (dag_okn h2.dag).1
theorem rows_nodup {w:Wd} (h:WR w):(keysP (rowsL w)).Nodup:=by
  have hs:∀ r∈w.runs,r.states.length≤200:=fun r hr => by have:=h.few r hr; omega
  have hn:=rise_nodup h.rruns
  have hd:(keysP (w.dags.map dagPr)).Nodup:=by
    have:=rise_nodup h.rdags
    simp only [dagsN] at this
    simp only [keysP,List.map_map,List.Nodup,List.pairwise_map] at this ⊢
    exact this.imp fun {a b} h e => h (by simpa [Function.comp,dagPr] using e)
  have hd1:∀ k∈keysP (w.dags.map dagPr),∃ t,k=100::t:=fun k hk => by
    simp only [keysP,List.map_map,List.mem_map,Function.comp] at hk
    obtain ⟨d,_,rfl⟩:=hk
    exact ⟨d.name,by simp [dagPr]⟩
  have hm:(keysP (metaPr w)).Nodup∧∀ k∈keysP (metaPr w),k=[109]:=by
    unfold metaPr; split<;>simp [keysP]
  unfold rowsL
  rw [keysP_app,keysP_app]
  refine List.nodup_append.2 ⟨hd,List.nodup_append.2 ⟨hm.1,(runs_keys hn hs).1,fun k hk k' hk' e => ?_⟩,fun k hk k' hk' e => ?_⟩
  · subst e
    obtain ⟨t,h1 | h1⟩:=runs_first hs hn hk'<;>rw [hm.2 k hk] at h1<;>simp at h1
  · subst e
    obtain ⟨t,rfl⟩:=hd1 k hk
    rcases List.mem_append.1 hk' with h1 | h1
    · have:=hm.2 _ h1; simp at this
    · obtain ⟨u,h2 | h2⟩:=runs_first hs hn h1<;>simp at h2
theorem rows_ok {w:Wd} (h:WR w):Srt (rowsS w)∧(rowsS w).Perm (rowsL w):=by
  have hp:=rowsL_perm w
  obtain ⟨h1,h2⟩:=puts_ok (l0:=[]) (l:=metaPr w++(w.dags.map dagPr++runsPr w.runs)) List.Pairwise.nil (by
    rw [List.nil_append]; exact ((hp.map _).nodup_iff).2 (rows_nodup h))
  exact ⟨h1,h2.trans (by rw [List.nil_append]; exact hp)⟩
def noDag (d:Dag):Prop:=d.name=[]∧d.tasks.length=0
instance (d:Dag):Decidable (noDag d):=by unfold noDag; infer_instance
def bareP (c:Cmd):Prop :=
  if c.kind=1 then c.key=[]∧c.name=[]∧c.token=0∧c.time=0∧c.text=[]
  else if c.kind=2 then c.token=0∧c.time=0∧c.text=[]∧noDag c.dag
  else if c.kind=4∨c.kind=6 then c.key=[]∧c.name=[]∧c.time=0∧c.text=[]∧noDag c.dag
  else if c.kind=5 then c.key=[]∧c.name=[]∧c.time=0∧noDag c.dag
  else if c.kind=7∨c.kind=9 then c.name=[]∧c.token=0∧c.time=0∧c.text=[]∧noDag c.dag
  else if c.kind=8 then c.key=[]∧c.name=[]∧c.token=0∧c.text=[]∧noDag c.dag
  else c.key=[]∧c.name=[]∧c.token=0∧c.time=0∧c.text=[]∧noDag c.dag
instance (c:Cmd):Decidable (bareP c):=by unfold bareP; infer_instance
def fitP (c:Cmd):Prop:=c.key.length≤255∧c.name.length≤255∧c.text.length≤255∧0≤c.token∧c.token < 281474976710656∧0≤c.time∧c.time < 281474976710656
instance (c:Cmd):Decidable (fitP c):=by unfold fitP; infer_instance
def cmdP (c:Cmd):Prop:=1≤c.kind∧c.kind≤10∧bareP c∧fitP c∧(c.kind=1→refRightS c.dag=0)
instance (c:Cmd):Decidable (cmdP c):=by unfold cmdP; infer_instance
theorem dag_put1 (H:Hp) (b:Nat) (out:Str) (n k:Int) (hr:out.length≤1000000000) (hn:n≤9223372036854775807) (hb:b < H.n) (hm:H.m b=some (.arr 1 [.str out])) :
    ACall Try.prog 36 [.int .i64 n,.int .i64 k,.ptr b 0 0] H [b] (.tup []) [(b,some (.arr 1 [.str (out++(putS n k).1)]))] 0:=by
  refine ena36 (by simp) (by simp [lowL,V.low,hb]) (fun id hid => ?_) (by simp) ?_
  · simp at hid; subst hid
    exact ⟨hb,fun o ho => by rw [hm] at ho; simp at ho; subst ho; rfl⟩
  have q1:only [b] H.m b=some (.arr 1 [.str out]):=by simp [only,hm]
  have hpl:=putS_len n k
  simp (maxSteps:=1000000) (disch:=omega) only [rg,gD,simprocAttr,c36]
  refine ⟨_,code_put n k hn, ?_⟩
  simp (maxSteps:=1000000) (disch:=omega) only [rg,gD,simprocAttr,sV,q1]
  refine ⟨_,code_all .full [out,(putS n k).1] (by simp) (by simp at hr ⊢; omega), ?_⟩
  rw [two_flat]
  simp (maxSteps:=1000000) (disch:=omega) only [rg,gD,simprocAttr,q1]
  exact fin_An (l:=[]) rfl (.inl rfl) (by simp) (fun id => .inr (by by_cases h:id=b<;>simp [appd,upd,h]))
def okInt (n:Int):Prop:=n≤9223372036854775807
def okDagN (d:Dag):Prop:=∀ t∈d.tasks,(∀ x∈t.needs,okInt x)∧okInt t.tries∧okInt t.wait∧okInt t.lease
theorem dag_put (d:Dag) (hd:∀ t∈d.tasks,t.needs.length≤4611686018427387904) (hn:d.tasks.length≤4611686018427387904) (hi:okDagN d):PCall Try.prog 14 [dagV d] (sV (dagPutS d)):=by
  refine en14 (by simp) (by simp [closedL,V.closed,dagV_closed]) ?_
  have kr:=dag_right d hd hn
  rw [← right_same] at kr
  unfold dagV tasksV at kr
  simp (maxSteps:=1000000) (disch:=omega) only [rg,gD,simprocAttr,c14,dagV,tasksV]
  refine ⟨_,kr, ?_⟩
  by_cases c0:refRightS d=0
  case neg =>
    simp (maxSteps:=1000000) (disch:=omega) only [rg,gD,simprocAttr,c0]
    (refine fin_x rfl ?_ ?_<;>simp [pack,lo,loL,V.closed,closedL,mv_closed,sV,dagPutS,c0])
  obtain ⟨hfit,h10,h16,h1,hneeds⟩:=right_fit c0
  simp (maxSteps:=1000000) (disch:=omega) only [rg,gD,simprocAttr,c0]
  refine ⟨_,code_text d.name (by omega), ?_⟩
  have tl:=textS_len d.name
  have n1:=putS_len1 d.tasks.length
  simp (maxSteps:=1000000) (disch:=omega) only [rg,gD,simprocAttr,sV]
  refine ⟨_,_,_,_,dag_put1 _ 1 (textS d.name).1 d.tasks.length 1 (by omega) (by omega) (by simp) (by simp (disch:=omega) only [upd_eq,upd_ne,wo_0,wo_1,wo_2]), ?_⟩
  simp (maxSteps:=1000000) (disch:=omega) only [rg,gD,simprocAttr]
  have hD:dagPutS d=(((textS d.name).1++(putS d.tasks.length 1).1)++tsksB d.tasks,0):=by simp [dagPutS,c0,dagB]
  rw [hD]
  generalize hB:(textS d.name).1++(putS d.tasks.length 1).1=B
  have hBl:B.length≤100:=by rw [← hB]; simp; omega
  refine x_it d.tasks.length (fun i σ H => 2≤H.n∧H.m 1=some (.arr 1 [.str (B++tsksB (d.tasks.take i))])∧σ=[(5,.ptr 1 0 0),(7,.fn 36 [] [.ptr 1 0 0]),(30,tasksV d.tasks),(31,.int .i64 d.tasks.length),(32,.int .i64 i)]) ⟨Nat.le_refl 2,(by simp (disch:=omega) only [upd_eq,upd_ne,wo_0,wo_1,wo_2,tsksB,List.take_zero,List.map_nil,List.flatten_nil,List.append_nil]),rfl⟩ ?_
  rintro T i σ ⟨q,m⟩ hi' ⟨hq,e1,rfl⟩ hN hX hR
  simp only at hq e1
  simp (maxSteps:=1000000) (disch:=omega) only [rg,gD,simprocAttr,tasksV]
  refine ⟨fun h => ?_,fun h => ?_⟩
  · have i1:i < d.tasks.length:=by omega
    obtain ⟨g1,g2,g3,g4⟩:=hi _ (List.getElem_mem i1)
    have hnl:=hneeds _ (List.getElem_mem i1)
    have hq1:1≠q:=by omega
    have hsl:=tsksB_len (l:=d.tasks.take i) (N:=10) (fun t ht => hneeds t (List.mem_of_mem_take ht))
    rw [List.length_take] at hsl
    rw [tsksB_succ i1] at hN
    generalize tsksB (d.tasks.take i)=out at *
    have hol:(B++out).length≤1000:=by simp; omega
    simp (maxSteps:=1000000) (disch:=omega) only [rg,gD,simprocAttr,taskV,vI_len]
    generalize d.tasks[i]=t at *
    refine ⟨_,_,_,_,dag_put1 _ 1 (B++out) t.needs.length 1 (by omega) (by omega) (by show 1 < q+1; omega) (by simp (disch:=omega) only [upd_eq,upd_ne,wo_0,wo_1,wo_2,e1]), ?_⟩
    have m1:=putS_len1 t.needs.length
    simp (maxSteps:=1000000) (disch:=omega) only [rg,gD,simprocAttr,vI_len]
    refine x_it t.needs.length (fun j σ H => q+1≤H.n∧H.m q=some (.arr 4 [taskV t])∧H.m 1=some (.arr 1 [.str (((B++out)++(putS t.needs.length 1).1)++intsB (t.needs.take j))])∧σ=[(5,.ptr 1 0 0),(7,.fn 36 [] [.ptr 1 0 0]),(9,.ptr q 0 0),(30,tasksV d.tasks),(31,.int .i64 d.tasks.length),(32,.int .i64 i),(42,.fsl .loose 1 (vI t.needs)),(43,.int .i64 t.needs.length),(44,.int .i64 j)]) ⟨Nat.le_refl _,(by simp (disch:=omega) only [upd_eq,upd_ne,wo_0,wo_1,wo_2,taskV]),(by simp (disch:=omega) only [upd_eq,upd_ne,wo_0,wo_1,wo_2,intsB,List.take_zero,List.map_nil,List.flatten_nil,List.append_nil]),rfl⟩ ?_
    rintro T2 j σ ⟨q2,m2⟩ hj ⟨hq2,f0,f1,rfl⟩ hN2 hX2 hR2
    simp only at hq2 f0 f1
    unfold taskV at f0
    have hil:=intsB_len (t.needs.take j)
    rw [List.length_take] at hil
    have hol2:(((B++out)++(putS t.needs.length 1).1)++intsB (t.needs.take j)).length≤1020:=by rw [List.length_append,List.length_append]; omega
    simp (maxSteps:=1000000) (disch:=omega) only [rg,gD,simprocAttr]
    refine ⟨fun h => ?_,fun h => ?_⟩
    · have j1:j < t.needs.length:=by omega
      rw [intsB_succ j1] at hN2
      generalize intsB (t.needs.take j)=o2 at *
      simp (maxSteps:=1000000) (disch:=omega) only [rg,gD,simprocAttr,vI_get]
      refine ⟨_,_,_,_,dag_put1 _ 1 (((B++out)++(putS t.needs.length 1).1)++o2) t.needs[j] 1 (by omega) (g1 _ (List.getElem_mem j1)) (by show 1 < q2; omega) (by simp (disch:=omega) only [upd_eq,upd_ne,wo_0,wo_1,wo_2,f1]), ?_⟩
      simp (maxSteps:=1000000) (disch:=omega) only [rg,gD,simprocAttr]
      refine hN2 _ _ j1 ?_
      refine ⟨hq2,(by simp (disch:=omega) only [upd_eq,upd_ne,wo_0,wo_1,wo_2,f0,taskV]),(by simp (disch:=omega) only [upd_eq,upd_ne,wo_0,wo_1,wo_2,List.append_assoc]),rfl⟩
    · obtain rfl:j=t.needs.length:=by omega
      rw [List.take_length] at f1 hol2
      refine hX2 _ _ _ ?_
      simp (maxSteps:=1000000) (disch:=omega) only [rg,gD,simprocAttr]
      refine x_frz0 ?_
      have k3:=putS_len1 t.tries
      have k4:=putS_len3 t.wait
      generalize hO:((B++out)++(putS t.needs.length 1).1)++intsB t.needs=O at f1 hol2
      simp (maxSteps:=1000000) (disch:=omega) only [rg,gD,simprocAttr,f0]
      refine ⟨_,_,_,_,dag_put1 _ 1 O t.tries 1 (by omega) g2 (by show 1 < q2; omega) (by simp (disch:=omega) only [upd_eq,upd_ne,wo_0,wo_1,wo_2,f1]), ?_⟩
      simp (maxSteps:=1000000) (disch:=omega) only [rg,gD,simprocAttr,f0]
      refine ⟨_,_,_,_,dag_put1 _ 1 (O++(putS t.tries 1).1) t.wait 3 (by rw [List.length_append]; omega) g3 (by show 1 < q2; omega) (by simp (disch:=omega) only [upd_eq,upd_ne,wo_0,wo_1,wo_2]), ?_⟩
      simp (maxSteps:=1000000) (disch:=omega) only [rg,gD,simprocAttr,f0]
      refine ⟨_,_,_,_,dag_put1 _ 1 ((O++(putS t.tries 1).1)++(putS t.wait 3).1) t.lease 3 (by rw [List.length_append,List.length_append]; omega) g4 (by show 1 < q2; omega) (by simp (disch:=omega) only [upd_eq,upd_ne,wo_0,wo_1,wo_2]), ?_⟩
      simp (maxSteps:=1000000) (disch:=omega) only [rg,gD,simprocAttr]
      refine x_frz0 ?_
      simp (maxSteps:=1000000) (disch:=omega) only [rg,gD,simprocAttr]
      refine hN _ _ i1 ?_
      refine ⟨by show 2≤q2; omega, ?_,rfl⟩
      simp only [upd_eq]
      rw [← hO]
      simp only [tskB,List.append_assoc]
  · obtain rfl:i=d.tasks.length:=by omega
    rw [List.take_length] at e1
    refine hX _ _ _ ?_
    simp (maxSteps:=1000000) (disch:=omega) only [rg,gD,simprocAttr]
    refine x_frz0 ?_
    simp (maxSteps:=1000000) (disch:=omega) only [rg,gD,simprocAttr,e1]
    (refine fin_x rfl ?_ ?_<;>simp [pack,lo,loL,V.closed,closedL,mv_closed,sV])
section
theorem sttsPr_succ (r:Rn) (i:Nat) (hi:i < r.states.length):sttsPr r (i+1)=sttsPr r i++[sttPr r i r.states[i]]:=by
  simp [sttsPr,List.range_succ,List.map_append,hi]
theorem sttsPr_len (r:Rn) (i:Nat):(sttsPr r i).length=i:=by simp [sttsPr]
theorem runsPr_take {l:List Rn} {j:Nat} (h:j < l.length):runsPr (l.take (j+1))=runsPr (l.take j)++runPrs l[j]:=by
  rw [List.take_succ_eq_append_getElem h,runsPr,List.flatMap_append,List.flatMap_singleton]; rfl
theorem runsPr_len:∀ {l:List Rn},(∀ r∈l,r.states.length≤10)→(runsPr l).length≤l.length*11
  | [],_ => by simp [runsPr]
  | r::l,h => by
    have:=runsPr_len (l:=l) fun x hx => h x (by simp [hx])
    have h0:=h r (by simp)
    have e:runsPr (r::l)=runPrs r++runsPr l:=by simp [runsPr]
    rw [e,List.length_append,runPrs,List.length_cons,sttsPr_len,List.length_cons]; omega
theorem dags_take {l:List Dag} {j:Nat} (h:j < l.length):(l.take (j+1)).map dagPr=(l.take j).map dagPr++[dagPr l[j]]:=by
  rw [List.take_succ_eq_append_getElem h,List.map_append]; rfl
theorem i64_of (s:Stt) (h:standsS s=true):i64S s:=by
  have:=(standsS_iff _).1 h
  unfold i64S; unfold MT at this; omega
theorem setC_dag0 (d:Dag):setC (some 2) 0 (V.agg [V.str [],V.fsl .nil 4 []]) (dagV d)=some (dagV d):=rfl
theorem getC_wnow (w:Wd):getC none 0 (wdV w)=some (.int .i64 w.now):=rfl
theorem getC_wtok (w:Wd):getC none 1 (wdV w)=some (.int .i64 w.token):=rfl
theorem getC_wrs2 (w:Wd):getC none 3 (wdV w)=some (.fsl .loose 5 (mv rnV w.runs)):=rfl
theorem getC_wd2 (w:Wd):getC none 2 (wdV w)=some (.fsl .loose 2 (mv dagV w.dags)):=rfl
theorem put_fits {n k:Int} (h:(putS n k).2=0):n≤9223372036854775807:=by
  unfold putS at h
  split at h
  · cases h
  · rename_i c
    have hk:k.toNat≤6:=by omega
    have h1:(256:Int) ^ k.toNat≤256 ^ 6:=by
      have:=Nat.pow_le_pow_right (n:=256) (by decide) hk
      exact_mod_cast this
    have h2:(256:Int) ^ 6=281474976710656:=by decide
    omega
theorem dag_N {d:Dag} (h:dagRightS d=0):okDagN d:=by
  rw [← right_same] at h
  obtain ⟨⟨_,_,hf⟩,_⟩:=right_fit h
  intro t ht
  obtain ⟨_,f2,f3,f4,f5⟩:=hf t ht
  exact ⟨fun x hx => put_fits (f2 x hx),put_fits f3,put_fits f4,put_fits f5⟩
theorem dag_pr {d:Dag} (h:dagRightS d=0):dagPutS d=(dagB d,0):=by
  unfold dagPutS; rw [right_same,if_pos h]
theorem dag_nl {d:Dag} (h:dagRightS d=0):d.name.length≤16:=by
  rw [← right_same] at h
  exact (right_fit h).2.2.1
open Classical in
set_option maxHeartbeats 2000000 in
theorem rows_rows (w:Wd) (ok:WdM w):PCall Try.prog 6 [wdV w] (.tup [prsV (if WR w then rowsS w else []),.int .i64 (if WR w then 0 else 1)]):=by
  refine en6 (by simp) (by simp [closedL,wdV_closed]) ?_
  have hwr:=world_right w ok.ok
  by_cases hw:WR w
  case neg =>
    rw [decide_eq_false hw] at hwr
    simp (maxSteps:=1000000) (disch:=omega) only [rg,gD,simprocAttr,c6,getC_wd]
    refine ⟨⟨rfl,rfl⟩,_,hwr, ?_⟩
    simp (maxSteps:=1000000) (disch:=omega) only [rg,gD,simprocAttr]
    refine x_frz0 ?_
    simp (maxSteps:=1000000) (disch:=omega) only [rg,gD,simprocAttr]
    (refine fin_x rfl ?_ ?_<;>simp [pack,lo,loL,V.closed,closedL,mv_closed,hw,prsV,mv_nil])
  rw [decide_eq_true hw] at hwr
  have hnd:=hw.ndags
  have hnr:=hw.nruns
  have hfew:=hw.few
  have hL:rowsL w=w.dags.map dagPr++(metaPr w++runsPr w.runs):=rfl
  have hML:(metaPr w).length≤1:=by unfold metaPr; split<;>simp
  have hRL:=runsPr_len hfew
  simp (maxSteps:=1000000) (disch:=omega) only [rg,gD,simprocAttr,c6,getC_wd]
  refine ⟨⟨rfl,rfl⟩,_,hwr, ?_⟩
  simp (maxSteps:=1000000) (disch:=omega) only [rg,gD,simprocAttr,getC_wd2,mv_len]
  refine x_it w.dags.length (fun i σ H => 2≤H.n∧H.m 0=some (.arr 4 [wdV w])∧(∃ v,H.m 1=some (.arr 1 [v])∧Gro 2 H.n H.m 2 v (mv prV ((w.dags.take i).map dagPr))) ∧
    σ=[(1,.ptr 0 0 0),(4,.ptr 1 0 0),(5,.fn 13 [] [.ptr 1 0 0]),(23,.fsl .loose 2 (mv dagV w.dags)),(24,.int .i64 (w.dags.length:Int)),(25,.int .i64 (i:Int))]) ⟨Nat.le_refl 2,(by simp (disch:=omega) only [upd_eq,upd_ne,wo_0,wo_1,wo_2]),⟨_,(by simp (disch:=omega) only [upd_eq,upd_ne,wo_0,wo_1,wo_2]),.nil⟩,rfl⟩ ?_
  rintro T i σ ⟨n,m⟩ hii ⟨hn,e0,⟨v,e1,hg⟩,rfl⟩ hN hX hR
  simp only at hn e0 e1 hg
  by_cases hi:i < w.dags.length
  · have hdm:=hw.dags _ (List.getElem_mem hi)
    have okd:=ok.ok.dag _ (List.getElem_mem hi)
    have hpd:=dag_put w.dags[i] okd.2 okd.1 (dag_N hdm)
    rw [dag_pr hdm] at hpd
    have hnl:=dag_nl hdm
    simp only [sV] at hpd
    obtain ⟨d,hd⟩:∃ d,d=w.dags[i]:=⟨_,rfl⟩
    have htk:=dags_take hi
    rw [← hd] at hpd htk hdm hnl
    have n0:(0:Nat)≠n:=by omega
    have n1:(1:Nat)≠n:=by omega
    simp (maxSteps:=1000000) (disch:=omega) only [rg,gD,simprocAttr,show (i:Int) < w.dags.length by omega,mv_get hi,← hd,Int.toNat_natCast,getC_dags,setC_dag0]
    refine ⟨_,hpd, ?_⟩
    simp (maxSteps:=1000000) (disch:=omega) only [rg,gD,simprocAttr,dagV]
    refine ⟨_,code_all .full [[100],d.name] (by simp) (by simp<;>omega), ?_⟩
    rw [two_flat]
    simp (maxSteps:=1000000) (disch:=omega) only [rg,gD,simprocAttr]
    refine add_step (lo:=2) (v:=v) (l:=(w.dags.take i).map dagPr) (by decide) (by simp only []; omega) (by simp (disch:=omega) only [upd_eq,upd_ne,wo_0,wo_1,wo_2,e1]) (hg.keep (by simp only []; omega) (fun id h1 h2 => by simp (disch:=omega) only [upd_ne])) (by simp; omega) fun v' fp ds hG hB hO => ?_
    have o0:=hO 0 (by simp only []; omega) (by omega) (hg.not (by omega))
    simp (disch:=omega) only [upd_ne,upd_eq,e0] at o0
    simp (maxSteps:=1000000) (disch:=omega) only [rg,gD,simprocAttr]
    have hG2:Gro 2 (n+1+1) _ 2 v' (mv prV ((w.dags.take (i+1)).map dagPr)):=htk ▸ hG.low (by simp only []; omega)
    exact hN _ _ hi ⟨by show 2≤n+2; omega,o0,⟨v',hB,hG2⟩,rfl⟩
  · obtain rfl:i=w.dags.length:=by omega
    rw [List.take_length] at hg
    simp (maxSteps:=1000000) (disch:=omega) only [rg,gD,simprocAttr,show ¬ (w.dags.length:Int) < w.dags.length by omega]
    refine hX _ _ _ ?_
    simp (maxSteps:=1000000) (disch:=omega) only [rg,gD,simprocAttr]
    refine x_frz0 ?_
    clear hN hX hR
    obtain ⟨M,hMd⟩:∃ M:Sg→Hp→Prop,∀ σ' H',M σ' H'↔(2≤H'.n∧H'.m 0=some (.arr 4 [wdV w])∧(∃ v,H'.m 1=some (.arr 1 [v])∧Gro 2 H'.n H'.m 2 v (mv prV (w.dags.map dagPr++metaPr w))) ∧
      find 1 σ'=some (.ptr 0 0 0)∧find 4 σ'=some (.ptr 1 0 0)∧find 5 σ'=some (.fn 13 [] [.ptr 1 0 0])):=⟨_,fun _ _ => Iff.rfl⟩
    refine ⟨M, ?_, ?_⟩
    · by_cases c:0 < w.now∨0 < w.token
      · have hmeta:metaPr w=[([109],(putS w.now 6).1++(putS w.token 6).1)]:=by unfold metaPr; rw [if_pos c]
        have t1:=hw.now.2
        have t2:=hw.token.2
        unfold MT at t1 t2
        have p1:=putS_len w.now 6
        have p2:=putS_len w.token 6
        by_cases c1:0 < w.now
        · simp (maxSteps:=1000000) (disch:=omega) only [rg,gD,simprocAttr,e0,getC_wnow,getC_wtok,c1]
          refine ⟨_,rows_number w.now 6 (by omega), ?_⟩
          simp (maxSteps:=1000000) (disch:=omega) only [rg,gD,simprocAttr,e0,getC_wtok]
          refine ⟨_,rows_number w.token 6 (by omega), ?_⟩
          simp (maxSteps:=1000000) (disch:=omega) only [rg,gD,simprocAttr]
          refine ⟨_,code_all .full [(putS w.now 6).1,(putS w.token 6).1] (by simp) (by simp<;>omega), ?_⟩
          rw [two_flat]
          simp (maxSteps:=1000000) (disch:=omega) only [rg,gD,simprocAttr]
          refine add_step (lo:=2) (v:=v) (l:=w.dags.map dagPr) (by decide) hn e1 hg (by simp; omega) fun v' fp ds hG hB hO => ?_
          have o0:=(hO 0 (by show 0 < n; omega) (by omega) (hg.not (by omega))).trans e0
          simp (maxSteps:=1000000) (disch:=omega) only [rg,gD,simprocAttr]
          exact (hMd _ _).2 ⟨by show 2≤n+1; omega,o0,⟨v',hB,by rw [hmeta]; exact hG.low hn⟩,rfl,rfl,rfl⟩
        · have c2:0 < w.token:=c.resolve_left c1
          simp (maxSteps:=1000000) (disch:=omega) only [rg,gD,simprocAttr,e0,getC_wnow,getC_wtok,c1,c2]
          refine ⟨_,rows_number w.now 6 (by omega), ?_⟩
          simp (maxSteps:=1000000) (disch:=omega) only [rg,gD,simprocAttr,e0,getC_wtok]
          refine ⟨_,rows_number w.token 6 (by omega), ?_⟩
          simp (maxSteps:=1000000) (disch:=omega) only [rg,gD,simprocAttr]
          refine ⟨_,code_all .full [(putS w.now 6).1,(putS w.token 6).1] (by simp) (by simp<;>omega), ?_⟩
          rw [two_flat]
          simp (maxSteps:=1000000) (disch:=omega) only [rg,gD,simprocAttr]
          refine add_step (lo:=2) (v:=v) (l:=w.dags.map dagPr) (by decide) hn e1 hg (by simp; omega) fun v' fp ds hG hB hO => ?_
          have o0:=(hO 0 (by show 0 < n; omega) (by omega) (hg.not (by omega))).trans e0
          simp (maxSteps:=1000000) (disch:=omega) only [rg,gD,simprocAttr]
          exact (hMd _ _).2 ⟨by show 2≤n+1; omega,o0,⟨v',hB,by rw [hmeta]; exact hG.low hn⟩,rfl,rfl,rfl⟩
      · have hmeta:metaPr w=[]:=by unfold metaPr; rw [if_neg c]
        have c1:¬ 0 < w.now:=fun h => c (.inl h)
        have c2:¬ 0 < w.token:=fun h => c (.inr h)
        simp (maxSteps:=1000000) (disch:=omega) only [rg,gD,simprocAttr,e0,getC_wnow,getC_wtok,c1,c2]
        exact (hMd _ _).2 ⟨hn,e0,⟨v,e1,by rw [hmeta,List.append_nil]; exact hg⟩,rfl,rfl,rfl⟩
    · rintro σ' ⟨n',m'⟩ hm
      obtain ⟨hn',f0,⟨v',f1,hg'⟩,s1,s4,s5⟩:=(hMd _ _).1 hm
      simp only at hn' f0 f1 hg'
      clear hm hMd M e0 e1 hg
      simp (maxSteps:=1000000) (disch:=omega) only [rg,gD,simprocAttr,s1,s4,s5,f0,getC_wrs2,mv_len]
      have hB0:(w.dags.map dagPr++metaPr w).length≤17:=by simp; omega
      generalize hbase:w.dags.map dagPr++metaPr w=base at hg' hB0
      have hLb:rowsL w=base++runsPr w.runs:=by rw [hL,← hbase,List.append_assoc]
      refine x_it w.runs.length (fun j σ H => 2≤H.n∧(∃ v,H.m 1=some (.arr 1 [v])∧Gro 2 H.n H.m 2 v (mv prV (base++runsPr (w.runs.take j)))) ∧
        σ=[(4,.ptr 1 0 0),(5,.fn 13 [] [.ptr 1 0 0]),(61,.fsl .loose 5 (mv rnV w.runs)),(62,.int .i64 (w.runs.length:Int)),(63,.int .i64 (j:Int))]) ⟨hn',⟨v',f1,by simpa [runsPr] using hg'⟩,rfl⟩ ?_
      clear s1 s4 s5 hg' f0 f1 hn' hi hii hn hwr
      clear v v' m n
      rintro T j σ ⟨n,m⟩ hjj ⟨hn,⟨v,e1,hg⟩,rfl⟩ hN hX hR
      simp only at hn e1 hg
      by_cases hj:j < w.runs.length
      · obtain ⟨r,hr⟩:∃ r,r=w.runs[j]:=⟨_,rfl⟩
        have hmem:r∈w.runs:=hr ▸ List.getElem_mem hj
        have hrr:=(hw.runs r hmem).2
        have hst:=hfew r hmem
        have htk:=runsPr_take hj
        have hpl:=runsPr_len (l:=w.runs.take j) (fun x hx => hfew x (List.mem_of_mem_take hx))
        rw [List.length_take] at hpl
        rw [← hr] at htk
        have hkl:=hrr.name.2
        have hnl:=dag_nl hrr.dag
        have tl:=textS_len r.dag.name
        have his:r.is≤9223372036854775807:=by have:=hrr.kind; unfold kindS at this; (repeat' split at this)<;>omega
        have p1:=putS_len r.is 1
        have n1:(1:Nat)≠n:=by omega
        simp (maxSteps:=1000000) (disch:=omega) only [rg,gD,simprocAttr,show (j:Int) < w.runs.length by omega,mv_get hj,← hr,Int.toNat_natCast,getC_runs,setC_rn0,rnV]
        refine ⟨_,code_text r.dag.name (by omega), ?_⟩
        simp (maxSteps:=1000000) (disch:=omega) only [rg,gD,simprocAttr,sV]
        refine ⟨_,code_all .full [[114],r.key] (by simp) (by simp<;>omega), ?_⟩
        rw [two_flat]
        simp (maxSteps:=1000000) (disch:=omega) only [rg,gD,simprocAttr]
        refine ⟨_,rows_number r.is 1 his, ?_⟩
        simp (maxSteps:=1000000) (disch:=omega) only [rg,gD,simprocAttr]
        refine ⟨_,code_all .full [(putS r.is 1).1,(textS r.dag.name).1] (by simp) (by simp<;>omega), ?_⟩
        rw [two_flat]
        simp (maxSteps:=1000000) (disch:=omega) only [rg,gD,simprocAttr]
        refine add_step (lo:=2) (v:=v) (l:=base++runsPr (w.runs.take j)) (by decide) (by simp only []; omega) (by simp (disch:=omega) only [upd_eq,upd_ne,wo_0,wo_1,wo_2,e1]) (hg.keep (by simp only []; omega) (fun id h1 h2 => by simp (disch:=omega) only [upd_ne])) (by simp; omega) fun v' fp ds hG hB hO => ?_
        simp only [sttsV] at hG hB hO ⊢
        have b0:=hO n (Nat.lt_succ_self n) (by omega) (hg.not (by omega))
        simp (disch:=omega) only [upd_ne,upd_eq] at b0
        simp (maxSteps:=1000000) (disch:=omega) only [rg,gD,simprocAttr,b0,mv_len]
        have hG2:Gro (n+1) (n+1+1) _ 2 v' (mv prV ((base++runsPr (w.runs.take j))++runPr r::sttsPr r 0)):=hG
        refine x_it r.states.length (fun i σ H => n+1≤H.n∧H.m n=some (.arr 5 [.agg [.str r.key,.str r.dag.name,tasksV r.dag.tasks,.int .i64 r.is,.fsl .loose 5 (mv sttV r.states)]]) ∧
          (∃ v,H.m 1=some (.arr 1 [v])∧Gro (n+1) H.n H.m 2 v (mv prV ((base++runsPr (w.runs.take j))++runPr r::sttsPr r i))) ∧
          σ=[(4,.ptr 1 0 0),(5,.fn 13 [] [.ptr 1 0 0]),(11,.ptr n 0 0),(61,.fsl .loose 5 (mv rnV w.runs)),(62,.int .i64 (w.runs.length:Int)),(63,.int .i64 (j:Int)),(87,.fsl .loose 5 (mv sttV r.states)),(88,.int .i64 (r.states.length:Int)),(89,.int .i64 (i:Int))])
          ⟨Nat.le_succ _,b0,⟨v',hB,hG2⟩,rfl⟩ ?_
        clear hG2 hG hB hO b0 hg e1
        clear v v' fp ds m
        rintro T2 i σ ⟨n2,m⟩ hii ⟨hn2,b0,⟨v,e1,hg⟩,rfl⟩ hN2 hX2 hR2
        simp only at hn2 b0 e1 hg
        by_cases hi:i < r.states.length
        · obtain ⟨s,hs⟩:∃ s,s=r.states[i]:=⟨_,rfl⟩
          have hsm:s∈r.states:=hs ▸ List.getElem_mem hi
          have hstd:=hrr.stands s hsm
          have hsk:=sttsPr_succ r i hi
          rw [← hs] at hsk
          have htp:=task_put s (by have:=(standsS_iff s).1 hstd; omega) (i64_of s hstd)
          rw [show stPutS s=(stBytes s,0) by unfold stPutS; rw [if_pos hstd]] at htp
          simp only [sV] at htp
          have p2:=putS_len i 1
          have m1:(1:Nat)≠n2:=by omega
          have m2:n≠n2:=by omega
          simp (maxSteps:=1000000) (disch:=omega) only [rg,gD,simprocAttr,show (i:Int) < r.states.length by omega,mv_get hi,← hs,Int.toNat_natCast,sttV]
          refine ⟨_,htp, ?_⟩
          simp (maxSteps:=1000000) (disch:=omega) only [rg,gD,simprocAttr,b0]
          refine ⟨_,rows_number i 1 (by omega), ?_⟩
          simp (maxSteps:=1000000) (disch:=omega) only [rg,gD,simprocAttr]
          refine ⟨_,code_all .full [[116],r.key,(putS i 1).1] (by simp) (by simp<;>omega), ?_⟩
          rw [show ([[116],r.key,(putS i 1).1]:List Str).flatten=([116]++r.key)++(putS i 1).1 by simp]
          simp (maxSteps:=1000000) (disch:=omega) only [rg,gD,simprocAttr]
          refine add_step (lo:=n+1) (v:=v) (l:=(base++runsPr (w.runs.take j))++runPr r::sttsPr r i) (by omega) (by simp only []; omega) (by simp (disch:=omega) only [upd_eq,upd_ne,wo_0,wo_1,wo_2,e1]) (hg.keep (by simp only []; omega) (fun id h1 h2 => by simp (disch:=omega) only [upd_ne])) (by simp [sttsPr_len]; omega) fun v' fp ds hG hB hO => ?_
          have b1:=hO n (by simp only []; omega) (by omega) (hg.not (by omega))
          simp (disch:=omega) only [upd_ne,upd_eq,b0] at b1
          simp (maxSteps:=1000000) (disch:=omega) only [rg,gD,simprocAttr]
          have e5:((base++runsPr (w.runs.take j))++runPr r::sttsPr r i)++[(116::(r.key++(putS i 1).1),stBytes s)]=(base++runsPr (w.runs.take j))++runPr r::sttsPr r (i+1):=by
            rw [hsk]; simp [sttPr]
          rw [e5] at hG
          exact hN2 _ _ hi ⟨by show n+1≤n2+2; omega,b1,⟨v',hB,hG.low (by simp only []; omega)⟩,rfl⟩
        · obtain rfl:i=r.states.length:=by omega
          simp (maxSteps:=1000000) (disch:=omega) only [rg,gD,simprocAttr,Int.lt_irrefl]
          refine hX2 _ _ _ ?_
          simp (maxSteps:=1000000) (disch:=omega) only [rg,gD,simprocAttr]
          refine x_frz0 ?_
          simp (maxSteps:=1000000) (disch:=omega) only [rg,gD,simprocAttr]
          refine hN _ _ hj ⟨by show 2≤n2; omega,⟨v,e1, ?_⟩,rfl⟩
          rw [htk]
          have:base++(runsPr (w.runs.take j)++runPrs r)=(base++runsPr (w.runs.take j))++runPr r::sttsPr r r.states.length:=by simp [runPrs]
          rw [this]; exact hg.low (by omega)
      · simp (maxSteps:=1000000) (disch:=omega) only [rg,gD,simprocAttr,show ¬ (j:Int) < w.runs.length by omega]
        refine hX _ _ _ ?_
        simp (maxSteps:=1000000) (disch:=omega) only [rg,gD,simprocAttr]
        obtain rfl:j=w.runs.length:=by omega
        rw [List.take_length,← hLb] at hg
        clear hN hX hR
        refine x_frz0 ?_
        obtain ⟨s1,s2⟩:=rows_ok hw
        rw [eq_true hw]
        simp only [if_true]
        have hlen:(rowsL w).length≤1000:=by rw [hLb]; simp; omega
        rcases hg with ⟨st,h0,rfl,hnil⟩ | ⟨id,h1,h2,rfl,h3⟩
        · have hz:rowsL w=[]:=by cases hh:rowsL w<;>simp [hh,mv] at hnil ⊢
          rw [hz] at s2
          have hS:rowsS w=[]:=s2.eq_nil
          rw [hS]
          simp (maxSteps:=1000000) (disch:=omega) only [rg,gD,simprocAttr,e1]
          refine ⟨_,_,_,_,rows_sort0 st _ _, ?_⟩
          simp (maxSteps:=1000000) (disch:=omega) only [rg,gD,simprocAttr,e1]
          refine x_frz0 ?_
          simp (maxSteps:=1000000) (disch:=omega) only [rg,gD,simprocAttr]
          (refine fin_x rfl ?_ ?_<;>simp [pack,lo,loL,V.closed,closedL,mv_closed,prsV,mv_nil])
        · rw [mv_len] at *
          have hsort:sortP cmpP (rowsL w)=rowsS w:=sort_is (rows_nodup hw) s1 s2
          have hd1:(1:Nat)≠id:=by omega
          by_cases hne:rowsL w=[]
          · rw [hne] at s2 h3 e1
            have hS:rowsS w=[]:=s2.eq_nil
            rw [hS]
            simp (maxSteps:=1000000) (disch:=omega) only [rg,gD,simprocAttr,e1,List.length_nil]
            refine ⟨_,_,_,_,rows_sort1 id _ _, ?_⟩
            simp (maxSteps:=1000000) (disch:=omega) only [rg,gD,simprocAttr,e1,List.length_nil]
            refine x_frz [id] ?_; simp only [vr,frz_p]; rw [frz_row (id:=id) (sz:=2) (l:=[]) (by first | assumption | (simp [upd]; done) | (simp [upd, *]; done)) (by simp) (by first | rfl | (simp [mv_len,s2.length_eq,closedL]<;>omega)) (by simp [mv_closed,V.closed,s2.length_eq,closedL])]
            simp (maxSteps:=1000000) (disch:=omega) only [rg,gD,simprocAttr]
            (refine fin_x rfl ?_ ?_<;>simp [pack,lo,loL,V.closed,closedL,mv_closed,prsV,mv_nil])
          simp (maxSteps:=1000000) (disch:=omega) only [rg,gD,simprocAttr,e1]
          refine ⟨_,_,_,_,rows_sort (l:=rowsL w) h3 hne (by omega), ?_⟩
          rw [hsort]
          simp (maxSteps:=1000000) (disch:=omega) only [rg,gD,simprocAttr,e1]
          refine x_frz [id] ?_; simp only [vr,frz_p]; rw [frz_row (id:=id) (sz:=2) (l:=mv prV (rowsS w)) (by first | assumption | (simp [upd]; done) | (simp [upd, *]; done)) (by simp) (by first | rfl | (simp [mv_len,s2.length_eq,prV_closed]<;>omega)) (by simp [mv_closed,V.closed,s2.length_eq,prV_closed])]
          simp (maxSteps:=1000000) (disch:=omega) only [rg,gD,simprocAttr]
          (refine fin_x rfl ?_ ?_<;>simp [pack,lo,loL,V.closed,closedL,mv_closed,prsV,prV_closed,mv_lo prV_lo])
end
theorem getC_pr0 (p:Pr):getC none 0 (prV p)=some (.str p.1):=rfl
theorem getC_pr (p:Pr):getC (some 2) 0 (prV p)=some (prV p):=rfl
theorem withP_cons (k v:Str) (put:Bool) (p:Pr) (l:List Pr):withP k v put (p::l)=((if put=false∧ltS p.1 k=false then [(k,v)] else [])++if p.1≠k then [p] else [])++withP k v (put || !ltS p.1 k) l:=rfl
def c5:C :=
  (.seq
 (.reg false [p (.box 4 (.v 0)),
 p (.alloc 4 (.agg [.int .i64 0,.int .i64 0,.fsl .nil 2 [],.fsl .nil 5 []]))] [(1,.r 1),(2,.r 0)])
 (.seq
 (.reg true [p (.fad 2 (.v 1)),
 p (.load (none) (.r 0)),
 p (.fad 2 (.v 1)),
 p (.load (none) (.r 0)),
 p (.len false (.r 0)),
 p (.mnx false (.r 0) [.k (.int .i64 20)]),
 p (.slc 2 (.r 4) none (some (.r 0)) none),
 p (.fad 3 (.v 1)),
 p (.load (none) (.r 0)),
 p (.fad 3 (.v 1)),
 p (.load (none) (.r 0)),
 p (.len false (.r 0)),
 p (.mnx false (.r 0) [.k (.int .i64 70)]),
 p (.slc 5 (.r 4) none (some (.r 0)) none),
 p (.fad 2 (.v 1)),
 ⟨.store (none) (.r 0) (.r 8),none,[1]⟩,
 p (.fad 3 (.v 1)),
 p (.store (none) (.r 0) (.r 3))] [(1,.v 1),(2,.v 2)])
 (.seq
 (.seq
 (.reg false [p (.fad 2 (.v 1)),
 p (.load (none) (.r 0)),
 p (.len false (.r 0)),
 p (.mov (.k (.int .i64 0)))] [(1,.v 1),(2,.v 2),(24,.r 2),(25,.r 1),(26,.r 0)])
 (.block 0
 (.loop
 (.seq
 (.reg false [p (.bin .lss (.v 26) (.v 25))] [(1,.v 1),(2,.v 2),(24,.v 24),(25,.v 25),(26,.v 26),(27,.r 0)])
 (.seq
 (.cond (.v 27)
 .skip
 (.exit 0))
 (.seq
 (.block 1
 (.seq
 (.reg false [p (.iad 2 (.v 24) (.v 26)),
 p (.load (some 2) (.r 0)),
 p (.alloc 2 (.agg [.str [],.fsl .nil 4 []])),
 p (.store (some 2) (.r 0) (.r 1))] [(1,.v 1),(2,.v 2),(4,.r 1),(24,.v 24),(25,.v 25),(26,.v 26)])
 (.seq
 (.reg false [p (.fad 1 (.v 4)),
 p (.load (none) (.r 0)),
 p (.len false (.r 0)),
 p (.bin .gtr (.r 0) (.k (.int .i64 20)))] [(1,.v 1),(2,.v 2),(24,.v 24),(25,.v 25),(26,.v 26),(33,.r 0)])
 (.cond (.v 33)
 (.seq
 (.reg false [p (.build [.int .i64 0,.int .i64 0,.fsl .nil 2 [],.fsl .nil 5 []] []),
 p (.store (some 4) (.v 2) (.r 0))] [(2,.v 2)])
 .ret)
 .skip))))
 (.reg false [p (.bin .add (.v 26) (.k (.int .i64 1))),
 p (.mov (.r 0))] [(1,.v 1),(2,.v 2),(24,.v 24),(25,.v 25),(26,.r 0)])))))))
 (.frz
 (.seq
 (.seq
 (.reg false [p (.fad 3 (.v 1)),
 p (.load (none) (.r 0)),
 p (.len false (.r 0)),
 p (.mov (.k (.int .i64 0)))] [(1,.v 1),(2,.v 2),(37,.r 2),(38,.r 1),(39,.r 0)])
 (.block 2
 (.loop
 (.seq
 (.reg false [p (.bin .lss (.v 39) (.v 38))] [(1,.v 1),(2,.v 2),(37,.v 37),(38,.v 38),(39,.v 39),(40,.r 0)])
 (.seq
 (.cond (.v 40)
 .skip
 (.exit 2))
 (.seq
 (.block 3
 (.seq
 (.reg false [p (.iad 5 (.v 37) (.v 39)),
 p (.load (some 5) (.r 0)),
 p (.alloc 5 (.agg [.str [],.str [],.fsl .nil 4 [],.int .i64 0,.fsl .nil 5 []])),
 p (.store (some 5) (.r 0) (.r 1))] [(1,.v 1),(2,.v 2),(6,.r 1),(37,.v 37),(38,.v 38),(39,.v 39)])
 (.seq
 (.reg false [p (.fad 4 (.v 6)),
 p (.load (none) (.r 0)),
 p (.len false (.r 0)),
 p (.bin .gtr (.r 0) (.k (.int .i64 20))),
 p (.mov (.r 0)),
 ⟨.fad 1 (.v 6),some (0,false),[]⟩,
 ⟨.fad 1 (.r 0),some (1,false),[]⟩,
 ⟨.load (none) (.r 0),some (2,false),[]⟩,
 ⟨.len false (.r 0),some (3,false),[]⟩,
 ⟨.bin .gtr (.r 0) (.k (.int .i64 20)),some (4,false),[]⟩,
 p (.pick (.r 5) (.k (.bool true)) (.r 0))] [(1,.v 1),(2,.v 2),(37,.v 37),(38,.v 38),(39,.v 39),(53,.r 0)])
 (.cond (.v 53)
 (.seq
 (.reg false [p (.build [.int .i64 0,.int .i64 0,.fsl .nil 2 [],.fsl .nil 5 []] []),
 p (.store (some 4) (.v 2) (.r 0))] [(2,.v 2)])
 .ret)
 .skip))))
 (.reg false [p (.bin .add (.v 39) (.k (.int .i64 1))),
 p (.mov (.r 0))] [(1,.v 1),(2,.v 2),(37,.v 37),(38,.v 38),(39,.r 0)])))))))
 (.frz
 (.seq
 (.reg false [p (.load (some 4) (.v 1)),
 p (.store (some 4) (.v 2) (.r 0))] [(2,.v 2)])
 .ret)))))))
def r5:List RV:=[.c 2 (some 4)]
theorem en5:EnP Try.prog 5 57 c5 r5:=mkEnP (by kernel_rfl) Try.func5 (by kernel_rfl) ⟨_,rfl,by kernel_rfl,by kernel_rfl⟩
def c7:C :=
  (.seq
 (.reg false [p (.mov (.k (.bool false)))] [])
 (.seq
 (.reg false [p (.build [.int .i64 0,.int .i64 0,.fsl .nil 2 [],.fsl .nil 5 []] [(0,1,.k (.int .i64 5))]),
 p (.call true (.k (.fn 6 [] [])) [.r 0]),
 p (.mov (.r 0)),
 p (.ext (.r 0) 0),
 p (.ext (.r 1) 1),
 p (.mov (.r 1)),
 p (.mov (.r 1))] [(1,.r 1),(2,.r 0)])
 (.seq
 (.reg false [p (.mov (.v 2)),
 p (.bin .eql (.r 0) (.k (.int .i64 0))),
 p (.mov (.r 0)),
 ⟨.mov (.v 1),some (0,true),[]⟩,
 ⟨.len false (.r 0),some (1,true),[]⟩,
 ⟨.bin .eql (.r 0) (.k (.int .i64 1)),some (2,true),[]⟩,
 p (.pick (.r 3) (.r 0) (.k (.bool false))),
 p (.mov (.r 0)),
 ⟨.mov (.v 1),some (0,true),[]⟩,
 ⟨.iad 2 (.r 0) (.k (.int .i64 0)),some (1,true),[]⟩,
 ⟨.fad 0 (.r 0),some (2,true),[]⟩,
 ⟨.load (none) (.r 0),some (3,true),[]⟩,
 ⟨.bin .eql (.r 0) (.k (.str [109])),some (4,true),[]⟩,
 p (.pick (.r 5) (.r 0) (.k (.bool false))),
 p (.mov (.r 0))] [(0,.r 0)])
 .ret)))
def r7:List RV:=[.t 0]
theorem en7:EnP Try.prog 7 22 c7 r7:=mkEnP (by kernel_rfl) Try.func7 (by kernel_rfl) ⟨_,rfl,by kernel_rfl,by kernel_rfl⟩
theorem law_few21 (w:Wd) (h:WdA w):PCall Try.prog 5 [wdV w] (wdV (fewS w)):=by
  refine en5 (by simp) (by simp [closedL,wdV_closed]) ?_
  have h1:=h.dags
  have h2:=h.runs
  have e1:(cutW w).dags=w.dags.take 20:=rfl
  have e2:(cutW w).runs=w.runs.take 70:=rfl
  have d1:List.take (min (w.dags.length:Int) 20).toNat (mv dagV w.dags)=mv dagV (cutW w).dags:=by
    rw [mv_take,e1]; congr 1
    by_cases c:w.dags.length≤20
    · rw [List.take_of_length_le (by omega),List.take_of_length_le c]
    · rw [show (min (w.dags.length:Int) 20).toNat=20 by omega]
  have r1:List.take (min (w.runs.length:Int) 70).toNat (mv rnV w.runs)=mv rnV (cutW w).runs:=by
    rw [mv_take,e2]; congr 1
    by_cases c:w.runs.length≤70
    · rw [List.take_of_length_le (by omega),List.take_of_length_le c]
    · rw [show (min (w.runs.length:Int) 70).toNat=70 by omega]
  have sl:∀ a b,slSt .loose a b none=.loose:=fun _ _ => rfl
  have hD:(cutW w).dags.length≤20:=by rw [e1]; simp; omega
  have hR:(cutW w).runs.length≤70:=by rw [e2]; simp; omega
  have hfew:fewS w=if (cutW w).dags.any bigD=true then zW else if (cutW w).runs.any bigR=true then zW else cutW w:=rfl
  have hcut:wdV (cutW w)=V.agg [V.int .i64 w.now,V.int .i64 w.token,V.fsl .loose 2 (mv dagV (cutW w).dags),V.fsl .loose 5 (mv rnV (cutW w).runs)]:=rfl
  generalize (cutW w).dags=D at d1 hD hfew hcut
  generalize (cutW w).runs=U at r1 hR hfew hcut
  simp (maxSteps:=1000000) (disch:=omega) only [rg,gD,simprocAttr,c5,wdV,mv_len,d1,r1,sl]
  refine ⟨⟨by omega,by omega,by omega⟩,⟨by omega,by omega,by omega⟩,by simp [compat,disj,nthL], ?_⟩
  refine x_it D.length (fun k σ H => 2≤H.n∧H.m 0=some (.arr 4 [wdV (cutW w)])∧H.m 1=some (.arr 4 [V.agg [V.int .i64 0,V.int .i64 0,V.fsl .nil 2 [],V.fsl .nil 5 []]])∧(D.any bigD=(D.drop k).any bigD) ∧
    σ=[(1,.ptr 0 0 0),(2,.ptr 1 0 0),(24,.fsl .loose 2 (mv dagV D)),(25,.int .i64 (D.length:Int)),(26,.int .i64 (k:Int))]) ⟨Nat.le_refl 2,by rw [hcut]; exact (by simp (disch:=omega) only [upd_eq,upd_ne,wo_0,wo_1,wo_2]),(by simp (disch:=omega) only [upd_eq,upd_ne,wo_0,wo_1,wo_2]),rfl,by rfl⟩ ?_
  rintro T k σ ⟨n,m⟩ hkk ⟨hn,e0,f1,hs,rfl⟩ hN hX hR'
  simp only at hn e0 f1
  rw [hcut] at e0
  by_cases hk:k < D.length
  · rw [any_drop hk] at hs
    by_cases c:20 < D[k].tasks.length
    · have hb:bigD D[k]=true:=by simp [bigD,c]
      rw [hb,Bool.true_or] at hs
      have hres:fewS w=zW:=by rw [hfew,if_pos hs]
      simp (maxSteps:=1000000) (disch:=omega) only [rg,gD,simprocAttr,show (k:Int) < D.length by omega,mv_get hk,getC_dags,Int.toNat_natCast,dagV,tasksV,mv_len,show (20:Int) < D[k].tasks.length by omega,f1]
      refine hR' _ _ ?_
      refine fin_x (by simp (disch:=omega) only [r5,resE,find,loadO,upd_eq,upd_ne,reduceIte,Nat.reduceEqDiff]; rfl) ?_ ?_<;>simp [pack,lo,loL,V.closed,closedL,mv_closed,wdV,zW,mv_nil,mv_lo dagV_lo,mv_lo rnV_lo,mv_closed dagV_closed,rnV_closed,hres]
    · have hb:bigD D[k]=false:=by simp [bigD]; omega
      rw [hb,Bool.false_or] at hs
      simp (maxSteps:=1000000) (disch:=omega) only [rg,gD,simprocAttr,show (k:Int) < D.length by omega,mv_get hk,getC_dags,Int.toNat_natCast,dagV,tasksV,mv_len,show ¬ (20:Int) < D[k].tasks.length by omega,f1]
      exact hN _ _ hk ⟨by simp only []; omega,(by simp (disch:=omega) only [upd_eq,upd_ne,wo_0,wo_1,wo_2,e0,hcut]),(by simp (disch:=omega) only [upd_eq,upd_ne,wo_0,wo_1,wo_2,f1]),hs,rfl⟩
  · obtain rfl:k=D.length:=by omega
    rw [List.drop_length] at hs
    have hs':¬ D.any bigD=true:=by rw [hs]; simp
    rw [if_neg hs'] at hfew
    simp (maxSteps:=1000000) (disch:=omega) only [rg,gD,simprocAttr,Int.lt_irrefl]
    refine hX _ _ _ ?_
    simp (maxSteps:=1000000) (disch:=omega) only [rg,gD,simprocAttr]
    refine x_frz0 ?_
    simp (maxSteps:=1000000) (disch:=omega) only [rg,gD,simprocAttr,e0,mv_len]
    refine x_it U.length (fun k σ H => 2≤H.n∧H.m 0=some (.arr 4 [wdV (cutW w)])∧H.m 1=some (.arr 4 [V.agg [V.int .i64 0,V.int .i64 0,V.fsl .nil 2 [],V.fsl .nil 5 []]])∧(U.any bigR=(U.drop k).any bigR) ∧
      σ=[(1,.ptr 0 0 0),(2,.ptr 1 0 0),(37,.fsl .loose 5 (mv rnV U)),(38,.int .i64 (U.length:Int)),(39,.int .i64 (k:Int))]) ⟨hn,by rw [hcut]; exact e0,f1,rfl,by rfl⟩ ?_
    clear hN hX hR' hs T
    rintro T k σ ⟨n,m⟩ hkk ⟨hn,e0,f1,hs,rfl⟩ hN hX hR'
    simp only at hn e0 f1
    rw [hcut] at e0
    by_cases hk:k < U.length
    · rw [any_drop hk] at hs
      by_cases c1:20 < U[k].states.length
      · have hb:bigR U[k]=true:=by simp [bigR,c1]
        rw [hb,Bool.true_or] at hs
        have hres:fewS w=zW:=by rw [hfew,if_pos hs]
        simp (maxSteps:=1000000) (disch:=omega) only [rg,gD,simprocAttr,show (k:Int) < U.length by omega,mv_get hk,getC_runs,Int.toNat_natCast,rnV,sttsV,tasksV,mv_len,show (20:Int) < U[k].states.length by omega,f1]
        refine hR' _ _ ?_
        refine fin_x (by simp (disch:=omega) only [r5,resE,find,loadO,upd_eq,upd_ne,reduceIte,Nat.reduceEqDiff]; rfl) ?_ ?_<;>simp [pack,lo,loL,V.closed,closedL,mv_closed,wdV,zW,mv_nil,mv_lo dagV_lo,mv_lo rnV_lo,mv_closed dagV_closed,rnV_closed,hres]
      by_cases c2:20 < U[k].dag.tasks.length
      · have hb:bigR U[k]=true:=by simp [bigR,c2]
        rw [hb,Bool.true_or] at hs
        have hres:fewS w=zW:=by rw [hfew,if_pos hs]
        simp (maxSteps:=1000000) (disch:=omega) only [rg,gD,simprocAttr,show (k:Int) < U.length by omega,mv_get hk,getC_runs,Int.toNat_natCast,rnV,sttsV,tasksV,mv_len,show ¬ (20:Int) < U[k].states.length by omega,show (20:Int) < U[k].dag.tasks.length by omega,f1]
        refine hR' _ _ ?_
        refine fin_x (by simp (disch:=omega) only [r5,resE,find,loadO,upd_eq,upd_ne,reduceIte,Nat.reduceEqDiff]; rfl) ?_ ?_<;>simp [pack,lo,loL,V.closed,closedL,mv_closed,wdV,zW,mv_nil,mv_lo dagV_lo,mv_lo rnV_lo,mv_closed dagV_closed,rnV_closed,hres]
      have hb:bigR U[k]=false:=by simp [bigR]; omega
      rw [hb,Bool.false_or] at hs
      simp (maxSteps:=1000000) (disch:=omega) only [rg,gD,simprocAttr,show (k:Int) < U.length by omega,mv_get hk,getC_runs,Int.toNat_natCast,rnV,sttsV,tasksV,mv_len,show ¬ (20:Int) < U[k].states.length by omega,show ¬ (20:Int) < U[k].dag.tasks.length by omega,f1]
      exact hN _ _ hk ⟨by simp only []; omega,(by simp (disch:=omega) only [upd_eq,upd_ne,wo_0,wo_1,wo_2,e0,hcut]),(by simp (disch:=omega) only [upd_eq,upd_ne,wo_0,wo_1,wo_2,f1]),hs,rfl⟩
    · obtain rfl:k=U.length:=by omega
      rw [List.drop_length] at hs
      have hs':¬ U.any bigR=true:=by rw [hs]; simp
      rw [if_neg hs'] at hfew
      simp (maxSteps:=1000000) (disch:=omega) only [rg,gD,simprocAttr,Int.lt_irrefl]
      refine hX _ _ _ ?_
      simp (maxSteps:=1000000) (disch:=omega) only [rg,gD,simprocAttr]
      refine x_frz0 ?_
      simp (maxSteps:=1000000) (disch:=omega) only [rg,gD,simprocAttr,e0,f1]
      have hfw:V.agg [V.int .i64 (fewS w).now,V.int .i64 (fewS w).token,V.fsl .loose 2 (mv dagV (fewS w).dags),V.fsl .loose 5 (mv rnV (fewS w).runs)]=wdV (fewS w):=rfl
      rw [hfw,hfew,hcut]
      refine fin_x (by simp (disch:=omega) only [r5,resE,find,loadO,upd_eq,upd_ne,reduceIte,Nat.reduceEqDiff]; rfl) ?_ ?_<;>simp [pack,lo,loL,V.closed,closedL,mv_closed,wdV,zW,mv_nil,mv_lo dagV_lo,mv_lo rnV_lo,mv_closed dagV_closed,rnV_closed]
theorem eqF_pr (p q:Pr):eqF [1,1] [.str p.1,.str p.2] [.str q.1,.str q.2]=some (decide (p=q)):=by
  obtain ⟨a,b⟩:=p; obtain ⟨c,d⟩:=q
  simp [eqF,Prod.mk.injEq]
theorem like8 (st st':St) (a b:List Pr) (ha:a.length≤100000) (hb:b.length≤100000):PCall Try.prog 10 [.fsl st 2 (mv prV a),.fsl st' 2 (mv prV b)] (.bool (decide (a=b))):=by
  refine en10 (by simp) (by simp [closedL,V.closed,mv_closed prV_closed]) ?_
  simp (maxSteps:=1000000) (disch:=omega) only [rg,gD,simprocAttr,c10,mv_len]
  by_cases c:a.length=b.length
  case neg =>
    have hne:a≠b:=fun e => c (by rw [e])
    simp (maxSteps:=1000000) (disch:=omega) only [rg,gD,simprocAttr,show ¬ (a.length:Int)=b.length by omega]
    (refine fin_x rfl ?_ ?_<;>simp [pack,lo,loL,V.closed,closedL,mv_closed,hne])
  simp (maxSteps:=1000000) (disch:=omega) only [rg,gD,simprocAttr,show (a.length:Int)=b.length by omega]
  refine x_it a.length (fun k σ H => a.take k=b.take k∧σ=[(0,.fsl st 2 (mv prV a)),(1,.fsl st' 2 (mv prV b)),(12,.int .i64 (a.length:Int)),(13,.int .i64 (k:Int))]) ⟨rfl,by simp [c]⟩ ?_
  rintro T k σ ⟨n,m⟩ hkk ⟨ht,rfl⟩ hN hX hR
  by_cases hk:k < a.length
  · have hk2:k < b.length:=by omega
    have e:(a.take (k+1)=b.take (k+1))↔a[k]=b[k]:=by
      rw [List.take_succ_eq_append_getElem hk,List.take_succ_eq_append_getElem hk2,ht]
      exact ⟨fun h => by simpa using List.append_cancel_left h,fun h => by rw [h]⟩
    by_cases h:a[k]=b[k]
    · simp (maxSteps:=1000000) (disch:=omega) only [rg,gD,simprocAttr,show (k:Int) < a.length by omega,mv_get hk,mv_get hk2,Int.toNat_natCast,getC_pr,prV,eqF_pr,decide_eq_true h]
      exact hN _ _ hk ⟨e.2 h,rfl⟩
    · have hne:a≠b:=fun e => h (by simp [e])
      simp (maxSteps:=1000000) (disch:=omega) only [rg,gD,simprocAttr,show (k:Int) < a.length by omega,mv_get hk,mv_get hk2,Int.toNat_natCast,getC_pr,prV,eqF_pr,decide_eq_false h]
      refine hR _ _ ?_
      simp (maxSteps:=1000000) (disch:=omega) only [rg,gD,simprocAttr]
      (refine fin_x rfl ?_ ?_<;>simp [pack,lo,loL,V.closed,closedL,mv_closed,hne])
  · obtain rfl:k=a.length:=by omega
    have hab:a=b:=by rw [List.take_length,c,List.take_length] at ht; exact ht
    simp (maxSteps:=1000000) (disch:=omega) only [rg,gD,simprocAttr,Int.lt_irrefl]
    refine hX _ _ _ ?_
    simp (maxSteps:=1000000) (disch:=omega) only [rg,gD,simprocAttr]
    refine x_frz0 ?_
    simp (maxSteps:=1000000) (disch:=omega) only [rg,gD,simprocAttr]
    (refine fin_x rfl ?_ ?_<;>simp [pack,lo,loL,V.closed,closedL,mv_closed,hab])
section
def w5W:Wd:=⟨5,0,[],[]⟩
theorem w5_WR:WR w5W:=by
  refine ⟨by simp [w5W,MT],by simp [w5W,MT],by simp [w5W],by simp [w5W], ?_, ?_,by simp [w5W],by simp [w5W],by simpa [w5W,toksR] using Tk.nil _⟩
  all_goals (intro i hi; simp [w5W,dagsN,runsN] at hi)
theorem w5_M:WdM w5W:=⟨⟨by simp [w5W],by simp [w5W],by simp [w5W],by simp [w5W]⟩,by simp [w5W]⟩
theorem w5_rows:rowsS w5W=[([109],(putS 5 6).1++(putS 0 6).1)]:=by simp [rowsS,w5W,metaPr,putsP,withP,runsPr]
open Classical in
theorem law_alive21:PCall Try.prog 7 [] (.bool true):=by
  refine en7 (by simp) (by simp [closedL]) ?_
  have h1:PCall Try.prog 6 [V.agg [.int .i64 5,.int .i64 0,.fsl .nil 2 [],.fsl .nil 5 []]] (.tup [.fsl .loose 2 [prV ([109],(putS 5 6).1++(putS 0 6).1)],.int .i64 0]):=by
    have:=rows_rows w5W w5_M
    rw [if_pos w5_WR,if_pos w5_WR,w5_rows] at this
    exact this.of_eq (by simp [wdV,w5W,loL,lo,mv_nil])
  simp (maxSteps:=1000000) (disch:=omega) only [rg,gD,simprocAttr,c7]
  refine ⟨_,h1, ?_⟩
  simp (maxSteps:=1000000) (disch:=omega) only [rg,gD,simprocAttr,prV]
  (refine fin_x rfl ?_ ?_<;>simp [pack,lo,loL,V.closed,closedL,mv_closed])
end
structure Chg where
  key:Str
  val:Str
  gone:Bool
  deriving DecidableEq
def chV (c:Chg):V:=.agg [.str c.key,.str c.val,.bool c.gone]
theorem chV_closed (c:Chg):(chV c).closed=true:=by simp [chV,V.closed,closedL]
theorem chV_lo (c:Chg):lo (chV c)=chV c:=by simp [chV,lo,loL]
def chsV (l:List Chg):V:=.fsl .loose 3 (mv chV l)
def goneC (p:Pr):Chg:=⟨p.1,[],true⟩
def setC' (p:Pr):Chg:=⟨p.1,p.2,false⟩
def diffS:List Pr→List Pr→List Chg
  | [],[] => []
  | p::a,[] => goneC p::diffS a []
  | [],q::b => setC' q::diffS [] b
  | p::a,q::b => if ltS p.1 q.1=true then goneC p::diffS a (q::b) else if ltS q.1 p.1=true then setC' q::diffS (p::a) b else (if p.2≠q.2 then [setC' q] else [])++diffS a b
termination_by a b => a.length+b.length
theorem diff_nil:diffS [] []=[]:=by rw [diffS]
theorem diff_l (p:Pr) (a:List Pr):diffS (p::a) []=goneC p::diffS a []:=by rw [diffS]
theorem diff_r (q:Pr) (b:List Pr):diffS [] (q::b)=setC' q::diffS [] b:=by rw [diffS]
theorem diff_c (p q:Pr) (a b:List Pr):diffS (p::a) (q::b)=if ltS p.1 q.1=true then goneC p::diffS a (q::b) else if ltS q.1 p.1=true then setC' q::diffS (p::a) b else (if p.2≠q.2 then [setC' q] else [])++diffS a b:=by rw [diffS]
theorem diff_len:∀ (a b:List Pr),(diffS a b).length≤a.length+b.length
  | [],[] => by rw [diff_nil]; simp
  | p::a,[] => by
    have:=diff_len a []
    rw [diff_l]; simp at this ⊢; omega
  | [],q::b => by
    have:=diff_len [] b
    rw [diff_r]; simp at this ⊢; omega
  | p::a,q::b => by
    rw [diff_c]
    have h1:=diff_len a (q::b)
    have h2:=diff_len (p::a) b
    have h3:=diff_len a b
    simp only [List.length_cons] at h1 h2
    split
    · simp; omega
    · split
      · simp; omega
      · have:(if p.2≠q.2 then [setC' q] else []).length≤1:=by split<;>simp
        simp only [List.length_append,List.length_cons]; omega
termination_by a b => a.length+b.length
def changeP (l:List Pr) (c:Chg):List Pr:=if c.gone=true then l.filter (fun p => decide (p.1≠c.key)) else withP c.key c.val false l
theorem withP_pre (k v:Str):∀ {pre rest:List Pr},(∀ p∈pre,ltS p.1 k=true)→withP k v false (pre++rest)=pre++withP k v false rest
  | [],_,_ => rfl
  | p::pre,rest,h => by
    have h1:=h p (by simp)
    have hne:=lt_ne h1
    simp only [List.cons_append,withP_cons,h1,Bool.true_eq_false,and_false,if_false,if_pos hne,List.nil_append,List.singleton_append,Bool.not_true,Bool.or_false]
    rw [withP_pre k v fun p hp => h p (by simp [hp])]
theorem withP_new {k v:Str} {l:List Pr} (h:∀ p∈l,ltS k p.1=true):withP k v false l=(k,v)::l:=by
  cases l with
  | nil => rfl
  | cons p l =>
    have h1:=h p (by simp)
    have hne:p.1≠k:=(lt_ne h1).symm
    have hf:l.filter (fun p => decide (p.1≠k))=l:=List.filter_eq_self.2 fun q hq => by simpa using (lt_ne (h q (by simp [hq]))).symm
    simp only [withP_cons,lt_asy h1,and_self,if_true,if_pos hne,Bool.not_false,Bool.or_true,withP_true,hf]
    rfl
theorem withP_old {v:Str} {p:Pr} {l:List Pr} (h:∀ q∈l,ltS p.1 q.1=true):withP p.1 v false (p::l)=(p.1,v)::l:=by
  have hf:l.filter (fun q => decide (q.1≠p.1))=l:=List.filter_eq_self.2 fun q hq => by simpa using (lt_ne (h q hq)).symm
  simp only [withP_cons,lt_irr,and_self,if_true,ne_eq,not_true,if_false,Bool.not_false,Bool.or_true,withP_true,List.append_nil]
  rw [show l.filter (fun q => decide ¬ q.1=p.1)=l from hf]; rfl
theorem srt_pre {pre:List Pr} {q:Pr} {b:List Pr} (h:Srt (pre++q::b)):(∀ p∈pre,ltS p.1 q.1=true)∧(∀ p∈b,ltS q.1 p.1=true):=by
  obtain ⟨_,h2,h3⟩:=List.pairwise_append.1 h
  exact ⟨fun p hp => h3 p hp q (by simp),fun p hp => (List.pairwise_cons.1 h2).1 p hp⟩
theorem srt_drop {pre:List Pr} {q:Pr} {b:List Pr} (h:Srt (pre++q::b)):Srt (pre++b):=h.sublist (List.Sublist.append_left (List.sublist_cons_self q b) pre)
theorem srt_ins {pre x:List Pr} {q:Pr} (h:Srt (pre++x)) (h1:∀ p∈pre,ltS p.1 q.1=true) (h2:∀ p∈x,ltS q.1 p.1=true):Srt ((pre++[q])++x):=by
  obtain ⟨a,b,c⟩:=List.pairwise_append.1 h
  rw [List.append_assoc]
  refine List.pairwise_append.2 ⟨a,List.pairwise_cons.2 ⟨h2,b⟩,fun p hp r hr => ?_⟩
  rcases List.mem_cons.1 hr with rfl | hr
  · exact h1 p hp
  · exact c p hp r hr
theorem gone_pre {pre a:List Pr} {p:Pr} (h:Srt (pre++p::a)):changeP (pre++p::a) (goneC p)=pre++a:=by
  obtain ⟨h1,h2⟩:=srt_pre h
  unfold changeP goneC
  simp only [if_true,List.filter_append,List.filter_cons]
  rw [List.filter_eq_self.2 fun q hq => by simpa using lt_ne (h1 q hq),List.filter_eq_self.2 fun q hq => by simpa using (lt_ne (h2 q hq)).symm]
  simp
theorem diff_makes:∀ (x y pre:List Pr),Srt (pre++x)→Srt (pre++y)→(diffS x y).foldl changeP (pre++x)=pre++y
  | [],[],pre,_,_ => by rw [diff_nil]; rfl
  | p::a,[],pre,hx,hy => by
    rw [diff_l,List.foldl_cons,gone_pre hx]
    exact diff_makes a [] pre (srt_drop hx) hy
  | [],q::b,pre,hx,hy => by
    obtain ⟨h1,h2⟩:=srt_pre hy
    rw [diff_r,List.foldl_cons]
    have e:changeP (pre++[]) (setC' q)=(pre++[q])++[]:=by
      show withP q.1 q.2 false (pre++[])=_
      rw [withP_pre q.1 q.2 h1]; simp [withP]
    rw [e,diff_makes [] b (pre++[q]) (by simpa using srt_ins (x:=[]) (by simpa using hx) h1 (by simp)) (by simpa using hy)]
    simp
  | p::a,q::b,pre,hx,hy => by
    obtain ⟨h1,h2⟩:=srt_pre hy
    obtain ⟨g1,g2⟩:=srt_pre hx
    rw [diff_c]
    split
    · rw [List.foldl_cons,gone_pre hx]
      exact diff_makes a (q::b) pre (srt_drop hx) hy
    · rename_i c1
      split
      · rename_i c2
        have hall:∀ r∈p::a,ltS q.1 r.1=true:=fun r hr => by
          rcases List.mem_cons.1 hr with rfl | hr
          · exact c2
          · exact lt_trans' c2 (g2 r hr)
        have e:changeP (pre++p::a) (setC' q)=(pre++[q])++p::a:=by
          show withP q.1 q.2 false (pre++p::a)=_
          rw [withP_pre q.1 q.2 h1,withP_new hall]; simp
        rw [List.foldl_cons,e,diff_makes (p::a) b (pre++[q]) (srt_ins hx h1 hall) (by simpa using hy)]
        simp
      · rename_i c2
        have hk:p.1=q.1:=by
          rcases lt_tri p.1 q.1 with h | h | h
          · exact absurd h c1
          · exact h
          · exact absurd h c2
        have hx2:Srt ((pre++[q])++a):=srt_ins (srt_drop hx) h1 (fun r hr => hk ▸ g2 r hr)
        have key:(diffS a b).foldl changeP ((pre++[q])++a)=pre++q::b:=by
          rw [diff_makes a b (pre++[q]) hx2 (by simpa using hy)]; simp
        by_cases hv:p.2=q.2
        · have hpq:p=q:=Prod.ext hk hv
          rw [if_neg (fun h => h hv),List.nil_append]
          rw [hpq]; simpa using key
        · rw [if_pos hv,List.singleton_append,List.foldl_cons]
          have e:changeP (pre++p::a) (setC' q)=(pre++[q])++a:=by
            show withP q.1 q.2 false (pre++p::a)=_
            rw [withP_pre q.1 q.2 h1,← hk,withP_old g2,hk]; simp
          rw [e]; exact key
termination_by x y => x.length+y.length
theorem put6_inj {n m:Int} (hn:0≤n∧n≤MT) (hm:0≤m∧m≤MT) (h:(putS n 6).1=(putS m 6).1):n=m:=by
  have e6:(6:Int).toNat=6:=rfl
  have p6:(256:Int) ^ 6=281474976710656:=by decide
  have q6:(256:Nat) ^ 6=281474976710656:=by decide
  unfold MT at hn hm
  rw [putS_in ⟨by omega,by omega,hn.1,by rw [e6,p6]; omega⟩,putS_in ⟨by omega,by omega,hm.1,by rw [e6,p6]; omega⟩,e6] at h
  have h1:=beN_beS 6 n.toNat (by rw [q6]; omega)
  have h2:=beN_beS 6 m.toNat (by rw [q6]; omega)
  simp only at h
  rw [h,h2] at h1; omega
theorem put6_len {n:Int} (hn:0≤n∧n≤MT):(putS n 6).1.length=6:=by
  have e6:(6:Int).toNat=6:=rfl
  have p6:(256:Int) ^ 6=281474976710656:=by decide
  unfold MT at hn
  rw [putS_in ⟨by omega,by omega,hn.1,by rw [e6,p6]; omega⟩,e6]; simp [beS_len]
theorem text_inj {s t:Str} (hs:s.length≤65535) (ht:t.length≤65535) (h:(textS s).1=(textS t).1):s=t:=by
  rw [textS_in hs,textS_in ht] at h
  simp only at h
  exact (List.append_inj h (by rw [beS_len,beS_len])).2
theorem key_one {l:List Pr} (h:(keysP l).Nodup) {k v v':Str} (h1:(k,v)∈l) (h2:(k,v')∈l):v=v':=by
  obtain ⟨i,hi,e1⟩:=List.mem_iff_getElem.1 h1
  obtain ⟨j,hj,e2⟩:=List.mem_iff_getElem.1 h2
  have hn:=List.pairwise_iff_getElem.1 h
  have hij:i=j:=by
    rcases Nat.lt_trichotomy i j with c | c | c
    · exact absurd (by simp [keysP,e1,e2]) (hn i j (by simpa [keysP] using hi) (by simpa [keysP] using hj) c)
    · exact c
    · exact absurd (by simp [keysP,e1,e2]) (hn j i (by simpa [keysP] using hj) (by simpa [keysP] using hi) c)
  subst hij
  rw [e1] at e2
  exact congrArg Prod.snd e2
theorem sttsPr_mem {r:Rn} {k:Nat} {p:Pr}:p∈sttsPr r k↔∃ i,i < k∧p=sttPr r i (r.states.getD i zS):=by
  simp only [sttsPr,List.mem_map,List.mem_range]
  exact ⟨fun ⟨i,h,e⟩ => ⟨i,h,e.symm⟩,fun ⟨i,h,e⟩ => ⟨i,h,e.symm⟩⟩
theorem rowsL_mem {w:Wd} {p:Pr}:p∈rowsL w↔(∃ d∈w.dags,p=dagPr d)∨p∈metaPr w∨∃ r∈w.runs,p=runPr r∨∃ i,i < r.states.length∧p=sttPr r i (r.states.getD i zS):=by
  simp only [rowsL,runsPr,runPrs,List.mem_append,List.mem_map,List.mem_flatMap,List.mem_cons,sttsPr_mem]
  constructor
  · rintro (⟨d,h,e⟩ | h | h)
    · exact .inl ⟨d,h,e.symm⟩
    · exact .inr (.inl h)
    · exact .inr (.inr h)
  · rintro (⟨d,h,e⟩ | h | h)
    · exact .inl ⟨d,h,e.symm⟩
    · exact .inr (.inl h)
    · exact .inr (.inr h)
theorem meta_first {w:Wd} {p:Pr} (h:p∈metaPr w):p.1=[109]∧p.2=(putS w.now 6).1++(putS w.token 6).1∧(0 < w.now∨0 < w.token):=by
  unfold metaPr at h
  split at h
  · rename_i c; simp at h; subst h; exact ⟨rfl,rfl,c⟩
  · cases h
theorem mem_100 {w:Wd} {n v:Str} (h:(100::n,v)∈rowsL w):∃ d∈w.dags,d.name=n∧dagB d=v:=by
  rcases rowsL_mem.1 h with ⟨d,hd,e⟩ | h | ⟨r,hr,e | ⟨i,hi,e⟩⟩
  · simp only [dagPr,Prod.mk.injEq,List.singleton_append,List.cons.injEq,true_and] at e
    exact ⟨d,hd,e.1.symm,e.2.symm⟩
  · have:=(meta_first h).1; simp at this
  · simp [runPr] at e
  · simp [sttPr] at e
theorem mem_114 {w:Wd} {n v:Str} (h:(114::n,v)∈rowsL w):∃ r∈w.runs,r.key=n∧(putS r.is 1).1++(textS r.dag.name).1=v:=by
  rcases rowsL_mem.1 h with ⟨d,hd,e⟩ | h | ⟨r,hr,e | ⟨i,hi,e⟩⟩
  · simp [dagPr] at e
  · have:=(meta_first h).1; simp at this
  · simp only [runPr,Prod.mk.injEq,List.singleton_append,List.cons.injEq,true_and] at e
    exact ⟨r,hr,e.1.symm,e.2.symm⟩
  · simp [sttPr] at e
theorem mem_109 {w:Wd} {v:Str} (h:([109],v)∈rowsL w):v=(putS w.now 6).1++(putS w.token 6).1∧(0 < w.now∨0 < w.token):=by
  rcases rowsL_mem.1 h with ⟨d,hd,e⟩ | h | ⟨r,hr,e | ⟨i,hi,e⟩⟩
  · simp [dagPr] at e
  · exact ⟨(meta_first h).2.1,(meta_first h).2.2⟩
  · simp [runPr] at e
  · simp [sttPr] at e
theorem is_bounds {r:Rn} (h:RnR r):0≤r.is∧r.is < 256:=by have:=h.kind; unfold kindS at this; (repeat' split at this)<;>omega
theorem put1_inj {a b:Int} (ha:0≤a∧a < 256) (hb:0≤b∧b < 256) (h:(putS a 1).1=(putS b 1).1):a=b:=by
  have:=beS_inj1 (a:=a.toNat) (b:=b.toNat) (by omega) (by omega) (by rw [Int.toNat_of_nonneg ha.1,Int.toNat_of_nonneg hb.1]; exact h)
  omega
theorem put1_len' {a:Int} (ha:0≤a∧a < 256):(putS a 1).1.length=1:=by
  have:=put1_len (a:=a.toNat) (by omega); rwa [Int.toNat_of_nonneg ha.1] at this
theorem dags_sub {a b:Wd} (ha:WR a) (hb:WR b) (h:∀ p,p∈rowsL a→p∈rowsL b):∀ d∈a.dags,d∈b.dags:=fun d hd => by
  obtain ⟨d',hd',e1,e2⟩:=mem_100 (h (dagPr d) (rowsL_mem.2 (.inl ⟨d,hd,rfl⟩)))
  have h1:=dagPut_back (show refRightS d=0 by rw [right_same]; exact ha.dags d hd)
  have h2:=dagPut_back (show refRightS d'=0 by rw [right_same]; exact hb.dags d' hd')
  rw [e2,h1] at h2
  have:=congrArg Prod.fst h2
  simp only at this; rw [this]; exact hd'
theorem runs_sub {a b:Wd} (ha:WR a) (hb:WR b) (hd:∀ d∈a.dags,d∈b.dags) (h:∀ p,p∈rowsL a→p∈rowsL b):∀ r∈a.runs,r∈b.runs:=fun r hr => by
  obtain ⟨r',hr',e1,e2⟩:=mem_114 (h (runPr r) (rowsL_mem.2 (.inr (.inr ⟨r,hr,.inl rfl⟩))))
  obtain ⟨q1,q2⟩:=ha.runs r hr
  obtain ⟨g1,g2⟩:=hb.runs r' hr'
  have b1:=is_bounds q2
  have b2:=is_bounds g2
  have e2':(putS r'.is 1).1++(textS r'.dag.name).1=(putS r.is 1).1++(textS r.dag.name).1:=e2
  obtain ⟨e3,e4⟩:=List.append_inj e2' (by rw [put1_len' b1,put1_len' b2])
  have his:=put1_inj b2 b1 e3
  have hnm:=text_inj (by have:=dag_nl g2.dag; omega) (by have:=dag_nl q2.dag; omega) e4
  have hdag:r'.dag=r.dag:=by
    have m1:=hd _ q1
    obtain ⟨i,hi,ei⟩:=List.mem_iff_getElem.1 m1
    obtain ⟨j,hj,ej⟩:=List.mem_iff_getElem.1 g1
    have l1:=(lbD_at hb.rdags hi).1
    have l2:=(lbD_at hb.rdags hj).1
    rw [ei] at l1; rw [ej,hnm] at l2
    have:i=j:=l1.symm.trans l2
    subst this; exact ej.symm.trans ei
  have hlen:r'.states.length=r.states.length:=by rw [g2.len,q2.len,hdag]
  have hst:r'.states=r.states:=by
    refine List.ext_getElem hlen fun i h1 h2 => ?_
    have m1:sttPr r i (r.states.getD i zS)∈rowsL b:=h _ (rowsL_mem.2 (.inr (.inr ⟨r,hr,.inr ⟨i,h2,rfl⟩⟩)))
    have m2:sttPr r' i (r'.states.getD i zS)∈rowsL b:=rowsL_mem.2 (.inr (.inr ⟨r',hr',.inr ⟨i,h1,rfl⟩⟩))
    unfold sttPr at m1 m2
    rw [e1] at m2
    have hv:=key_one (rows_nodup hb) m1 m2
    simp only [List.getD_eq_getElem?_getD,List.getElem?_eq_getElem h1,List.getElem?_eq_getElem h2,Option.getD_some] at hv
    have k1:=stPut_back (g2.stands _ (List.getElem_mem h1))
    have k2:=stPut_back (q2.stands _ (List.getElem_mem h2))
    rw [← hv,k2] at k1
    exact (congrArg Prod.fst k1).symm
  have:r'=r:=by
    cases r; cases r'
    simp only [Rn.mk.injEq] at *
    exact ⟨e1,hdag,his,hst⟩
  rw [← this]; exact hr'
theorem rises_eq {α:Type} {f:α→Str} {l l':List α} (h:Rise (l.map f)) (h':Rise (l'.map f)) (hm:∀ x,x∈l↔x∈l'):l=l':=by
  have pw:∀ {l:List α},Rise (l.map f)→l.Pairwise fun a b => ltS (f a) (f b)=true:=fun {l} h => by
    refine List.pairwise_iff_getElem.2 fun i j hi hj hij => ?_
    have:=rise_lt h j i (by simpa using hj) hij
    simpa using this
  have nd:∀ {l:List α},Rise (l.map f)→l.Nodup:=fun h => (pw h).imp fun h e => by rw [e,lt_irr] at h; cases h
  refine List.Perm.eq_of_pairwise (le:=fun a b => ltS (f a) (f b)=true) (fun a b _ _ h1 h2 => ?_) (pw h) (pw h') ((List.perm_ext_iff_of_nodup (nd h) (nd h')).2 hm)
  rw [lt_asy h1] at h2; cases h2
theorem rows_inj {a b:Wd} (ha:WR a) (hb:WR b) (h:rowsS a=rowsS b):a=b:=by
  have hm:∀ p,p∈rowsL a↔p∈rowsL b:=fun p => by
    rw [← (rows_ok ha).2.mem_iff,← (rows_ok hb).2.mem_iff,h]
  have d1:=dags_sub ha hb fun p => (hm p).1
  have d2:=dags_sub hb ha fun p => (hm p).2
  have hd:a.dags=b.dags:=rises_eq (f:=Dag.name) ha.rdags hb.rdags fun d => ⟨d1 d,d2 d⟩
  have hr:a.runs=b.runs:=rises_eq (f:=Rn.key) ha.rruns hb.rruns fun r => ⟨runs_sub ha hb d1 (fun p => (hm p).1) r,runs_sub hb ha d2 (fun p => (hm p).2) r⟩
  have hmeta:a.now=b.now∧a.token=b.token:=by
    have one:∀ {x y:Wd},WR x→WR y→(∀ p,p∈rowsL x→p∈rowsL y)→(0 < x.now∨0 < x.token)→x.now=y.now∧x.token=y.token:=fun {x y} hx hy hp c => by
      have m1:([109],(putS x.now 6).1++(putS x.token 6).1)∈rowsL x:=rowsL_mem.2 (.inr (.inl (by unfold metaPr; rw [if_pos c]; simp)))
      obtain ⟨e,_⟩:=mem_109 (hp _ m1)
      obtain ⟨e1,e2⟩:=List.append_inj e (by rw [put6_len hx.now,put6_len hy.now])
      exact ⟨put6_inj hx.now hy.now e1,put6_inj hx.token hy.token e2⟩
    by_cases c:0 < a.now∨0 < a.token
    · exact one ha hb (fun p => (hm p).1) c
    · by_cases c':0 < b.now∨0 < b.token
      · obtain ⟨e1,e2⟩:=one hb ha (fun p => (hm p).2) c'; exact ⟨e1.symm,e2.symm⟩
      · have:=ha.now; have:=ha.token; have:=hb.now; have:=hb.token
        omega
  cases a; cases b
  simp only [Wd.mk.injEq] at *
  exact ⟨hmeta.1,hmeta.2,hd,hr⟩
theorem diff_none:∀ {x y:List Pr},diffS x y=[]→Srt x→Srt y→x=y:=fun {x y} h hx hy => by
  have:=diff_makes x y [] hx hy
  rw [h] at this; simpa using this
theorem diff_self:∀ x:List Pr,diffS x x=[]
  | [] => diff_nil
  | p::x => by rw [diff_c,if_neg (by simp [lt_irr]),if_neg (by simp [lt_irr]),if_neg (by simp),diff_self x]; rfl
def c8:C :=
  (.seq
 (.reg false [p (.box 4 (.v 0)),
 p (.box 4 (.v 1)),
 p (.mov (.k (.fsl .nil 3 []))),
 p (.mov (.k (.int .i64 0)))] [(2,.r 3),(3,.r 2)])
 (.seq
 (.reg false [p (.load (some 4) (.v 2)),
 p (.call true (.k (.fn 6 [] [])) [.r 0]),
 p (.mov (.r 0)),
 p (.ext (.r 0) 0),
 p (.ext (.r 1) 1),
 p (.mov (.r 1)),
 p (.mov (.r 1))] [(3,.v 3),(6,.r 1),(7,.r 0)])
 (.seq
 (.reg false [p (.load (some 4) (.v 3)),
 p (.call true (.k (.fn 6 [] [])) [.r 0]),
 p (.mov (.r 0)),
 p (.ext (.r 0) 0),
 p (.ext (.r 1) 1),
 p (.mov (.r 1)),
 p (.mov (.r 1))] [(6,.v 6),(7,.v 7),(8,.r 1),(9,.r 0)])
 (.seq
 (.seq
 (.reg false [p (.mov (.v 7)),
 p (.bin .neq (.r 0) (.k (.int .i64 0))),
 p (.mov (.r 0)),
 ⟨.mov (.v 9),some (0,false),[]⟩,
 ⟨.bin .neq (.r 0) (.k (.int .i64 0)),some (1,false),[]⟩,
 p (.pick (.r 2) (.k (.bool true)) (.r 0))] [(6,.v 6),(8,.v 8),(26,.r 0)])
 (.cond (.v 26)
 (.seq
 (.reg false [p (.mov (.k (.fsl .nil 3 []))),
 p (.mov (.k (.int .i64 1)))] [(4,.r 1),(5,.r 0)])
 (.frz .ret))
 .skip))
 (.seq
 (.reg false [p (.mov (.k (.fsl .nil 3 [])))] [(6,.v 6),(8,.v 8),(10,.r 0)])
 (.seq
 (.block 0
 (.loop
 (.seq
 (.seq
 (.reg false [p (.mov (.v 6)),
 p (.len false (.r 0)),
 p (.bin .gtr (.r 0) (.k (.int .i64 0))),
 p (.mov (.r 0)),
 ⟨.mov (.v 8),some (0,false),[]⟩,
 ⟨.len false (.r 0),some (1,false),[]⟩,
 ⟨.bin .gtr (.r 0) (.k (.int .i64 0)),some (2,false),[]⟩,
 p (.pick (.r 3) (.k (.bool true)) (.r 0))] [(6,.v 6),(8,.v 8),(10,.v 10),(34,.r 0)])
 (.cond (.v 34)
 .skip
 (.exit 0)))
 (.block 1
 (.block 2
 (.seq
 (.reg true [p (.mov (.v 8)),
 p (.len false (.r 0)),
 p (.bin .eql (.r 0) (.k (.int .i64 0))),
 p (.mov (.r 0)),
 ⟨.mov (.v 6),some (0,false),[]⟩,
 ⟨.len false (.r 0),some (1,false),[]⟩,
 ⟨.bin .gtr (.r 0) (.k (.int .i64 0)),some (2,false),[]⟩,
 ⟨.mov (.r 0),some (3,false),[]⟩,
 ⟨.mov (.v 6),some (0,true),[]⟩,
 ⟨.iad 2 (.r 0) (.k (.int .i64 0)),some (1,true),[]⟩,
 ⟨.fad 0 (.r 0),some (2,true),[]⟩,
 ⟨.load (none) (.r 0),some (3,true),[]⟩,
 ⟨.mov (.v 8),some (4,true),[]⟩,
 ⟨.iad 2 (.r 0) (.k (.int .i64 0)),some (5,true),[]⟩,
 ⟨.fad 0 (.r 0),some (6,true),[]⟩,
 ⟨.load (none) (.r 0),some (7,true),[]⟩,
 ⟨.bin .lss (.r 4) (.r 0),some (8,true),[]⟩,
 ⟨.pick (.r 9) (.r 0) (.k (.bool false)),some (13,false),[]⟩,
 p (.pick (.r 14) (.k (.bool true)) (.r 0)),
 p (.mov (.r 0))] [(6,.v 6),(8,.v 8),(10,.v 10),(60,.r 0)])
 (.cond (.v 60)
 (.seq
 (.reg false [p (.mov (.v 10)),
 p (.mov (.v 6)),
 p (.iad 2 (.r 0) (.k (.int .i64 0))),
 p (.fad 0 (.r 0)),
 p (.load (none) (.r 0)),
 p (.build [.str [],.str [],.bool false] [(0,1,.r 0),(2,1,.k (.bool true))]),
 p (.bsl 3 [.r 0]),
 p (.app 3 40 (.r 6) (.r 0)),
 p (.mov (.r 0))] [(6,.v 6),(8,.v 8),(10,.r 0)])
 (.reg false [p (.mov (.v 6)),
 p (.slc 2 (.r 0) (some (.k (.int .i64 1))) none none),
 p (.mov (.r 0))] [(6,.r 0),(8,.v 8),(10,.v 10)]))
 (.seq
 (.reg true [p (.mov (.v 6)),
 p (.len false (.r 0)),
 p (.bin .eql (.r 0) (.k (.int .i64 0))),
 p (.mov (.r 0)),
 ⟨.mov (.v 8),some (0,false),[]⟩,
 ⟨.iad 2 (.r 0) (.k (.int .i64 0)),some (1,false),[]⟩,
 ⟨.fad 0 (.r 0),some (2,false),[]⟩,
 ⟨.load (none) (.r 0),some (3,false),[]⟩,
 ⟨.mov (.v 6),some (4,false),[]⟩,
 ⟨.iad 2 (.r 0) (.k (.int .i64 0)),some (5,false),[]⟩,
 ⟨.fad 0 (.r 0),some (6,false),[]⟩,
 ⟨.load (none) (.r 0),some (7,false),[]⟩,
 ⟨.bin .lss (.r 4) (.r 0),some (8,false),[]⟩,
 p (.pick (.r 9) (.k (.bool true)) (.r 0)),
 p (.mov (.r 0))] [(6,.v 6),(8,.v 8),(10,.v 10),(90,.r 0)])
 (.cond (.v 90)
 (.seq
 (.reg true [p (.mov (.v 10)),
 p (.mov (.v 8)),
 p (.iad 2 (.r 0) (.k (.int .i64 0))),
 p (.fad 0 (.r 0)),
 p (.load (none) (.r 0)),
 p (.mov (.v 8)),
 p (.iad 2 (.r 0) (.k (.int .i64 0))),
 p (.fad 1 (.r 0)),
 p (.load (none) (.r 0)),
 p (.build [.str [],.str [],.bool false] [(0,1,.r 4),(1,1,.r 0)]),
 p (.bsl 3 [.r 0]),
 p (.app 3 40 (.r 10) (.r 0)),
 p (.mov (.r 0))] [(6,.v 6),(8,.v 8),(10,.r 0)])
 (.reg false [p (.mov (.v 8)),
 p (.slc 2 (.r 0) (some (.k (.int .i64 1))) none none),
 p (.mov (.r 0))] [(6,.v 6),(8,.r 0),(10,.v 10)]))
 (.seq
 (.seq
 (.reg true [p (.mov (.v 6)),
 p (.iad 2 (.r 0) (.k (.int .i64 0))),
 p (.fad 1 (.r 0)),
 p (.load (none) (.r 0)),
 p (.mov (.v 8)),
 p (.iad 2 (.r 0) (.k (.int .i64 0))),
 p (.fad 1 (.r 0)),
 p (.load (none) (.r 0)),
 p (.bin .neq (.r 4) (.r 0))] [(6,.v 6),(8,.v 8),(10,.v 10),(43,.r 0)])
 (.cond (.v 43)
 (.reg true [p (.mov (.v 10)),
 p (.mov (.v 8)),
 p (.iad 2 (.r 0) (.k (.int .i64 0))),
 p (.fad 0 (.r 0)),
 p (.load (none) (.r 0)),
 p (.mov (.v 8)),
 p (.iad 2 (.r 0) (.k (.int .i64 0))),
 p (.fad 1 (.r 0)),
 p (.load (none) (.r 0)),
 p (.build [.str [],.str [],.bool false] [(0,1,.r 4),(1,1,.r 0)]),
 p (.bsl 3 [.r 0]),
 p (.app 3 40 (.r 10) (.r 0)),
 p (.mov (.r 0))] [(6,.v 6),(8,.v 8),(10,.r 0)])
 .skip))
 (.reg true [p (.mov (.v 6)),
 p (.slc 2 (.r 0) (some (.k (.int .i64 1))) none none),
 p (.mov (.v 8)),
 p (.slc 2 (.r 0) (some (.k (.int .i64 1))) none none),
 p (.mov (.r 2)),
 p (.mov (.r 1))] [(6,.r 1),(8,.r 0),(10,.v 10)])))))))))))
 (.frz
 (.seq
 (.reg false [p (.mov (.v 10)),
 p (.mov (.r 0)),
 p (.mov (.k (.int .i64 0)))] [(4,.r 1),(5,.r 0)])
 (.frz .ret)))))))))
def r8:List RV:=[.t 4,.t 5]
theorem en8:EnP Try.prog 8 120 c8 r8:=mkEnP (by kernel_rfl) Try.func8 (by kernel_rfl) ⟨_,rfl,by kernel_rfl,by kernel_rfl⟩
section
theorem app_oneG {H:Hp} {sz bt:Nat} {v:V} {l:List V} {a:V} {K:KI} (h:Gro 0 H.n H.m sz v l) (hl:l.length≤1000000) (hb:bt≤1000)
    (k:∀ v' fp ds,Gro H.n (H.n+1) (appd ds H.m) sz v' (l++[a])→(∀ id,id < H.n→(∀ q,v≠.sl id 0 q)→appd ds H.m id=H.m id)→K v' fp ds 1):fin (appO H sz bt v (.fsl .full sz [a])) K:=by
  have e:(l++[a]).length=l.length+1:=List.length_append
  have hm:(l.length+1)*bt≤140737488355328:=Nat.le_trans (Nat.mul_le_mul (show l.length+1≤1000001 by omega) hb) (by decide)
  unfold appO
  rcases h with ⟨st,h0,rfl,rfl⟩ | ⟨id,h1,h1',rfl,h2⟩
  · refine ⟨⟨rfl,rfl,h0,by simpa using hm⟩,k _ _ _ (.inr ⟨H.n,Nat.le_refl _,by simp,by simp,by simp [appd,upd]⟩) (fun id hid _ => ?_)⟩
    have:id≠H.n:=by omega
    simp [appd,upd,this]
  · simp only [h2]
    refine ⟨⟨rfl,trivial,trivial,Nat.le_refl _,by simpa using hm⟩,k _ _ _ (.inr ⟨H.n,Nat.le_refl _,by simp,by simp,by simp [appd,upd]⟩) (fun i hid hn => ?_)⟩
    have h3:i≠H.n:=by omega
    have h4:i≠id:=fun e => hn _ (by rw [e])
    simp [appd,upd,h3,h4]
theorem getC_pr1 (p:Pr):getC none 1 (prV p)=some (.str p.2):=rfl
theorem rows_len {w:Wd} (h:WR w):(rowsS w).length≤1000:=by
  have:=(rows_ok h).2.length_eq
  have h4:=runsPr_len h.few
  have hML:(metaPr w).length≤1:=by unfold metaPr; split<;>simp
  have:=h.ndags; have:=h.nruns
  simp only [rowsL,List.length_append,List.length_map] at *; omega
open Classical in
set_option maxHeartbeats 2000000 in
theorem rows_diff (a b:Wd) (ha:WdM a) (hb:WdM b):PCall Try.prog 8 [wdV a,wdV b] (.tup [chsV (if WR a∧WR b then diffS (rowsS a) (rowsS b) else []),.int .i64 (if WR a∧WR b then 0 else 1)]):=by
  refine en8 (by simp) (by simp [closedL,wdV_closed]) ?_
  have h1:=rows_rows a ha
  have h2:=rows_rows b hb
  by_cases c:WR a∧WR b
  case neg =>
    rw [if_neg c,if_neg c]
    by_cases c1:WR a
    · have c2:¬ WR b:=fun h => c ⟨c1,h⟩
      rw [if_pos c1,if_pos c1] at h1
      rw [if_neg c2,if_neg c2] at h2
      simp (maxSteps:=1000000) (disch:=omega) only [rg,gD,simprocAttr,c8,getC_wd]
      refine ⟨⟨rfl,rfl⟩,⟨rfl,rfl⟩,_,h1, ?_⟩
      simp (maxSteps:=1000000) (disch:=omega) only [rg,gD,simprocAttr,getC_wd]
      refine ⟨_,h2, ?_⟩
      simp (maxSteps:=1000000) (disch:=omega) only [rg,gD,simprocAttr]
      refine x_frz0 ?_
      simp (maxSteps:=1000000) (disch:=omega) only [rg,gD,simprocAttr]
      (refine fin_x rfl ?_ ?_<;>simp [pack,lo,loL,V.closed,closedL,mv_closed,chsV,mv_nil])
    · rw [if_neg c1,if_neg c1] at h1
      simp (maxSteps:=1000000) (disch:=omega) only [rg,gD,simprocAttr,c8,getC_wd]
      refine ⟨⟨rfl,rfl⟩,⟨rfl,rfl⟩,_,h1, ?_⟩
      simp (maxSteps:=1000000) (disch:=omega) only [rg,gD,simprocAttr,getC_wd]
      refine ⟨_,h2, ?_⟩
      simp (maxSteps:=1000000) (disch:=omega) only [rg,gD,simprocAttr]
      refine x_frz0 ?_
      simp (maxSteps:=1000000) (disch:=omega) only [rg,gD,simprocAttr]
      (refine fin_x rfl ?_ ?_<;>simp [pack,lo,loL,V.closed,closedL,mv_closed,chsV,mv_nil])
  rw [if_pos c,if_pos c]
  rw [if_pos c.1,if_pos c.1] at h1
  rw [if_pos c.2,if_pos c.2] at h2
  have hX:=rows_len c.1
  have hY:=rows_len c.2
  generalize rowsS a=X at hX h1
  generalize rowsS b=Y at hY h2
  have hdl:=diff_len X Y
  simp (maxSteps:=1000000) (disch:=omega) only [rg,gD,simprocAttr,c8,getC_wd]
  refine ⟨⟨rfl,rfl⟩,⟨rfl,rfl⟩,_,h1, ?_⟩
  simp (maxSteps:=1000000) (disch:=omega) only [rg,gD,simprocAttr,getC_wd]
  refine ⟨_,h2, ?_⟩
  simp (maxSteps:=1000000) (disch:=omega) only [rg,gD,simprocAttr,prsV]
  have sl:∀ a b,slSt .loose a b none=.loose:=fun _ _ => rfl
  have tk:∀ l:List Pr,List.take l.length (mv prV l)=mv prV l:=fun l => List.take_of_length_le (by rw [mv_len]; exact Nat.le_refl _)
  refine x_it (X.length+Y.length) (fun k σ H => ∃ x y acc v,k+x.length+y.length≤X.length+Y.length∧diffS X Y=acc++diffS x y∧Gro 0 H.n H.m 3 v (mv chV acc)∧x.length≤X.length∧y.length≤Y.length ∧
    σ=[(6,.fsl .loose 2 (mv prV x)),(8,.fsl .loose 2 (mv prV y)),(10,v)]) ⟨X,Y,[],.fsl .nil 3 [],by omega,rfl,.nil,Nat.le_refl _,Nat.le_refl _,rfl⟩ ?_
  rintro T k σ ⟨n,m⟩ hkk ⟨x,y,acc,v,hk,hd,hg,hx,hy,rfl⟩ hN hX' hR
  simp only at hg
  have hal:acc.length≤2000:=by have:=congrArg List.length hd; rw [List.length_append] at this; omega
  cases x with
  | nil =>
    cases y with
    | nil =>
      rw [diff_nil,List.append_nil] at hd
      simp (maxSteps:=1000000) (disch:=omega) only [rg,gD,simprocAttr,mv_nil]
      refine hX' _ _ _ ?_
      simp (maxSteps:=1000000) (disch:=omega) only [rg,gD,simprocAttr]
      obtain ⟨fz,st,f1,f2,f3⟩:=hg.frz (mv_closed chV_closed)
      refine x_frz fz ?_
      simp only [frzS,f3]
      simp (maxSteps:=1000000) (disch:=omega) only [rg,gD,simprocAttr]
      refine x_frz0 ?_
      simp (maxSteps:=1000000) (disch:=omega) only [rg,gD,simprocAttr]
      rw [hd]
      (refine fin_x rfl ?_ ?_<;>simp [pack,lo,loL,V.closed,closedL,mv_closed,chsV,chV_closed,mv_lo chV_lo])
    | cons q y =>
      rw [diff_r] at hd
      simp (maxSteps:=1000000) (disch:=omega) only [rg,gD,simprocAttr,mv_nil,mv_len,mv_cons,getC_pr0,getC_pr1,sl,show (0:Int) < ((y.length+1:Nat):Int) by omega,show ¬ ((y.length+1:Nat):Int)=0 by omega]
      refine app_oneG hg (by rw [mv_len]; omega) (by decide) fun v' fp ds hG hO => ?_
      rw [x_nx]
      refine ⟨by simp only [compat_nil], ?_⟩
      simp (maxSteps:=1000000) (disch:=omega) only [rg,gD,simprocAttr,sl,mv_len,tk]
      refine ⟨⟨by omega,by omega⟩, ?_⟩
      simp only [List.length_cons,List.length_nil] at hk hy
      exact hN _ _ (by omega) ⟨[],y,acc++[setC' q],v',by simp only [List.length_nil]; omega,by rw [hd]; simp,by simpa [mv,chV,setC'] using hG.low (Nat.zero_le _),by simp,by omega,rfl⟩
  | cons p x =>
    cases y with
    | nil =>
      rw [diff_l] at hd
      simp (maxSteps:=1000000) (disch:=omega) only [rg,gD,simprocAttr,mv_nil,mv_len,mv_cons,getC_pr0,getC_pr1,sl,show (0:Int) < ((x.length+1:Nat):Int) by omega,show ¬ ((x.length+1:Nat):Int)=0 by omega]
      refine app_oneG hg (by rw [mv_len]; omega) (by decide) fun v' fp ds hG hO => ?_
      rw [x_nx]
      refine ⟨by simp only [compat_nil], ?_⟩
      simp (maxSteps:=1000000) (disch:=omega) only [rg,gD,simprocAttr,sl,mv_len,tk]
      refine ⟨⟨by omega,by omega⟩, ?_⟩
      simp only [List.length_cons,List.length_nil] at hk hx
      exact hN _ _ (by omega) ⟨x,[],acc++[goneC p],v',by simp only [List.length_nil]; omega,by rw [hd]; simp,by simpa [mv,chV,goneC] using hG.low (Nat.zero_le _),by omega,by simp,rfl⟩
    | cons q y =>
      rw [diff_c] at hd
      simp only [List.length_cons] at hk hx hy
      cases g1:ltS p.1 q.1 with
      | true =>
        have g1':Op.bytesLess p.1 q.1=true:=g1
        rw [if_pos g1] at hd
        simp (maxSteps:=1000000) (disch:=omega) only [rg,gD,simprocAttr,mv_nil,mv_len,mv_cons,getC_pr0,getC_pr1,sl,show (0:Int) < ((x.length+1:Nat):Int) by omega,show ¬ ((x.length+1:Nat):Int)=0 by omega,show (0:Int) < ((y.length+1:Nat):Int) by omega,show ¬ ((y.length+1:Nat):Int)=0 by omega,g1']
        refine app_oneG hg (by rw [mv_len]; omega) (by decide) fun v' fp ds hG hO => ?_
        rw [x_nx]
        refine ⟨by simp only [compat_nil], ?_⟩
        simp (maxSteps:=1000000) (disch:=omega) only [rg,gD,simprocAttr,sl,mv_len,tk]
        refine ⟨⟨by omega,by omega⟩, ?_⟩
        exact hN _ _ (by omega) ⟨x,q::y,acc++[goneC p],v',by simp only [List.length_cons]; omega,by rw [hd]; simp,by simpa [mv,chV,goneC] using hG.low (Nat.zero_le _),by omega,by simp; omega,rfl⟩
      | false =>
        have g1':Op.bytesLess p.1 q.1=false:=g1
        rw [if_neg (by rw [g1]; simp)] at hd
        cases g2:ltS q.1 p.1 with
        | true =>
          have g2':Op.bytesLess q.1 p.1=true:=g2
          rw [if_pos g2] at hd
          simp (maxSteps:=1000000) (disch:=omega) only [rg,gD,simprocAttr,mv_nil,mv_len,mv_cons,getC_pr0,getC_pr1,sl,show (0:Int) < ((x.length+1:Nat):Int) by omega,show ¬ ((x.length+1:Nat):Int)=0 by omega,show (0:Int) < ((y.length+1:Nat):Int) by omega,show ¬ ((y.length+1:Nat):Int)=0 by omega,g1',g2']
          refine app_oneG hg (by rw [mv_len]; omega) (by decide) fun v' fp ds hG hO => ?_
          rw [x_nx]
          refine ⟨by simp only [compat_nil], ?_⟩
          simp (maxSteps:=1000000) (disch:=omega) only [rg,gD,simprocAttr,sl,mv_len,tk]
          refine ⟨⟨by omega,by omega⟩, ?_⟩
          exact hN _ _ (by omega) ⟨p::x,y,acc++[setC' q],v',by simp only [List.length_cons]; omega,by rw [hd]; simp,by simpa [mv,chV,setC'] using hG.low (Nat.zero_le _),by simp; omega,by omega,rfl⟩
        | false =>
          have g2':Op.bytesLess q.1 p.1=false:=g2
          rw [if_neg (by rw [g2]; simp)] at hd
          by_cases g3:p.2=q.2
          · rw [if_neg (fun h => h g3),List.nil_append] at hd
            simp (maxSteps:=1000000) (disch:=omega) only [rg,gD,simprocAttr,mv_nil,mv_len,mv_cons,getC_pr0,getC_pr1,sl,show (0:Int) < ((x.length+1:Nat):Int) by omega,show ¬ ((x.length+1:Nat):Int)=0 by omega,show (0:Int) < ((y.length+1:Nat):Int) by omega,show ¬ ((y.length+1:Nat):Int)=0 by omega,g1',g2',eq_true g3,tk]
            refine ⟨⟨by omega,by omega⟩,⟨by omega,by omega⟩, ?_⟩
            exact hN _ _ (by omega) ⟨x,y,acc,v,by omega,hd,hg,by omega,by omega,rfl⟩
          · rw [if_pos g3] at hd
            simp (maxSteps:=1000000) (disch:=omega) only [rg,gD,simprocAttr,mv_nil,mv_len,mv_cons,getC_pr0,getC_pr1,sl,show (0:Int) < ((x.length+1:Nat):Int) by omega,show ¬ ((x.length+1:Nat):Int)=0 by omega,show (0:Int) < ((y.length+1:Nat):Int) by omega,show ¬ ((y.length+1:Nat):Int)=0 by omega,g1',g2',eq_false g3,tk]
            refine app_oneG hg (by rw [mv_len]; omega) (by decide) fun v' fp ds hG hO => ?_
            rw [x_nx]
            refine ⟨by simp only [compat_nil], ?_⟩
            simp (maxSteps:=1000000) (disch:=omega) only [rg,gD,simprocAttr,sl,mv_len,tk]
            refine ⟨⟨by omega,by omega⟩,⟨by omega,by omega⟩, ?_⟩
            exact hN _ _ (by omega) ⟨x,y,acc++[setC' q],v',by omega,by rw [hd]; simp,by simpa [mv,chV,setC'] using hG.low (Nat.zero_le _),by omega,by omega,rfl⟩
end
def c3:C :=
  (.seq
 (.reg false [p (.box 4 (.v 0)),
 p (.box 4 (.v 1)),
 p (.mov (.k (.bool false)))] [(2,.r 2),(3,.r 1)])
 (.seq
 (.reg true [p (.load (some 4) (.v 2)),
 p (.call true (.k (.fn 5 [] [])) [.r 0]),
 p (.load (some 4) (.v 3)),
 p (.call true (.k (.fn 5 [] [])) [.r 0]),
 p (.store (some 4) (.v 2) (.r 2)),
 p (.store (some 4) (.v 3) (.r 1))] [(2,.v 2),(3,.v 3)])
 (.seq
 (.reg false [p (.load (some 4) (.v 2)),
 p (.call true (.k (.fn 6 [] [])) [.r 0]),
 p (.mov (.r 0)),
 p (.ext (.r 0) 0),
 p (.ext (.r 1) 1),
 p (.mov (.r 1)),
 p (.mov (.r 1))] [(2,.v 2),(3,.v 3),(5,.r 1),(6,.r 0)])
 (.seq
 (.reg false [p (.load (some 4) (.v 3)),
 p (.call true (.k (.fn 6 [] [])) [.r 0]),
 p (.mov (.r 0)),
 p (.ext (.r 0) 0),
 p (.ext (.r 1) 1),
 p (.mov (.r 1)),
 p (.mov (.r 1))] [(2,.v 2),(3,.v 3),(5,.v 5),(6,.v 6),(7,.r 1),(8,.r 0)])
 (.seq
 (.seq
 (.reg false [p (.mov (.v 6)),
 p (.bin .neq (.r 0) (.k (.int .i64 0))),
 p (.mov (.r 0)),
 ⟨.mov (.v 8),some (0,false),[]⟩,
 ⟨.bin .neq (.r 0) (.k (.int .i64 0)),some (1,false),[]⟩,
 p (.pick (.r 2) (.k (.bool true)) (.r 0))] [(2,.v 2),(3,.v 3),(5,.v 5),(7,.v 7),(31,.r 0)])
 (.cond (.v 31)
 (.seq
 (.reg false [p (.call true (.k (.fn 7 [] [])) []),
 p (.mov (.r 0))] [(4,.r 0)])
 .ret)
 .skip))
 (.seq
 (.reg false [p (.load (some 4) (.v 2)),
 p (.load (some 4) (.v 3)),
 p (.call true (.k (.fn 8 [] [])) [.r 1,.r 0]),
 p (.mov (.r 0)),
 p (.ext (.r 0) 0),
 p (.ext (.r 1) 1),
 p (.mov (.r 1)),
 p (.mov (.r 1))] [(2,.v 2),(3,.v 3),(5,.v 5),(7,.v 7),(9,.r 1),(10,.r 0)])
 (.seq
 (.reg false [p (.load (some 4) (.v 2)),
 p (.load (some 4) (.v 3)),
 p (.call true (.k (.fn 9 [] [])) [.r 1,.r 0]),
 p (.mov (.r 0))] [(5,.v 5),(7,.v 7),(9,.v 9),(10,.v 10),(11,.r 0)])
 (.seq
 (.reg false [p (.call true (.k (.fn 7 [] [])) []),
 p (.mov (.r 0)),
 ⟨.mov (.v 10),some (0,true),[]⟩,
 ⟨.bin .eql (.r 0) (.k (.int .i64 0)),some (1,true),[]⟩,
 p (.pick (.r 2) (.r 0) (.k (.bool false))),
 p (.mov (.r 0)),
 ⟨.mov (.v 5),some (0,true),[]⟩,
 ⟨.mov (.v 7),some (1,true),[]⟩,
 ⟨.call true (.k (.fn 10 [] [])) [.r 1,.r 0],some (2,true),[]⟩,
 ⟨.mov (.v 11),some (3,true),[]⟩,
 ⟨.eqb false (.r 1) (.r 0),some (4,true),[]⟩,
 p (.pick (.r 5) (.r 0) (.k (.bool false))),
 p (.mov (.r 0)),
 ⟨.mov (.v 9),some (0,true),[]⟩,
 ⟨.len false (.r 0),some (1,true),[]⟩,
 ⟨.bin .eql (.r 0) (.k (.int .i64 0)),some (2,true),[]⟩,
 ⟨.mov (.v 11),some (3,true),[]⟩,
 ⟨.eqb false (.r 1) (.r 0),some (4,true),[]⟩,
 p (.pick (.r 5) (.r 0) (.k (.bool false))),
 p (.mov (.r 0))] [(4,.r 0)])
 .ret))))))))
def r3:List RV:=[.t 4]
theorem en3:EnP Try.prog 3 61 c3 r3:=mkEnP (by kernel_rfl) Try.func3 (by kernel_rfl) ⟨_,rfl,by kernel_rfl,by kernel_rfl⟩
section
open Classical in
set_option maxHeartbeats 1000000 in
theorem law_unlike (a b:Wd) (ha:WdA a) (hb:WdA b):PCall Try.prog 3 [wdV a,wdV b] (.bool true):=by
  refine en3 (by simp) (by simp [closedL,wdV_closed]) ?_
  have fa:=law_few21 a ha
  have fb:=law_few21 b hb
  have ma:=few_M ha
  have mb:=few_M hb
  generalize fewS a=x at fa ma
  generalize fewS b=y at fb mb
  have h0:=rows_diff x y ma mb
  have h1:=rows_rows x ma
  have h2:=rows_rows y mb
  have h3:=like_wd x y ma.L mb.L
  simp (maxSteps:=1000000) (disch:=omega) only [rg,gD,simprocAttr,c3,getC_wd,setC_wd]
  refine ⟨⟨rfl,rfl⟩,⟨rfl,rfl⟩,_,fa, ?_⟩
  simp (maxSteps:=1000000) (disch:=omega) only [rg,gD,simprocAttr,getC_wd,setC_wd]
  refine ⟨_,fb, ?_⟩
  simp (maxSteps:=1000000) (disch:=omega) only [rg,gD,simprocAttr,getC_wd,setC_wd]
  refine ⟨_,h1, ?_⟩
  simp (maxSteps:=1000000) (disch:=omega) only [rg,gD,simprocAttr,getC_wd,setC_wd]
  refine ⟨_,h2, ?_⟩
  by_cases c1:WR x
  case neg =>
    rw [if_neg c1,if_neg c1]
    simp (maxSteps:=1000000) (disch:=omega) only [rg,gD,simprocAttr]
    refine ⟨_,law_alive21, ?_⟩
    simp (maxSteps:=1000000) (disch:=omega) only [rg,gD,simprocAttr]
    (refine fin_x rfl ?_ ?_<;>simp [pack,lo,loL,V.closed,closedL,mv_closed])
  rw [if_pos c1,if_pos c1]
  by_cases c2:WR y
  case neg =>
    rw [if_neg c2,if_neg c2]
    simp (maxSteps:=1000000) (disch:=omega) only [rg,gD,simprocAttr]
    refine ⟨_,law_alive21, ?_⟩
    simp (maxSteps:=1000000) (disch:=omega) only [rg,gD,simprocAttr]
    (refine fin_x rfl ?_ ?_<;>simp [pack,lo,loL,V.closed,closedL,mv_closed])
  rw [if_pos c2,if_pos c2]
  rw [if_pos ⟨c1,c2⟩,if_pos ⟨c1,c2⟩] at h0
  have l1:=rows_len c1
  have l2:=rows_len c2
  have o1:=(rows_ok c1).1
  have o2:=(rows_ok c2).1
  have h4:=like8 .loose .loose (rowsS x) (rowsS y) (by omega) (by omega)
  simp (maxSteps:=1000000) (disch:=omega) only [rg,gD,simprocAttr,getC_wd,setC_wd]
  refine ⟨_,h0, ?_⟩
  simp (maxSteps:=1000000) (disch:=omega) only [rg,gD,simprocAttr,getC_wd,setC_wd]
  refine ⟨_,h3, ?_⟩
  simp (maxSteps:=1000000) (disch:=omega) only [rg,gD,simprocAttr]
  refine ⟨_,law_alive21, ?_⟩
  simp (maxSteps:=1000000) (disch:=omega) only [rg,gD,simprocAttr,prsV]
  refine ⟨_,h4, ?_⟩
  by_cases c:x=y
  · subst c
    rw [decide_eq_true rfl,decide_eq_true rfl,diff_self]
    simp (maxSteps:=1000000) (disch:=omega) only [rg,gD,simprocAttr,chsV,mv_nil]
    (refine fin_x rfl ?_ ?_<;>simp [pack,lo,loL,V.closed,closedL,mv_closed])
  · have hne:¬ rowsS x=rowsS y:=fun h => c (rows_inj c1 c2 h)
    have hd:0 < (diffS (rowsS x) (rowsS y)).length:=by
      refine Nat.pos_of_ne_zero fun h => hne (diff_none (List.length_eq_zero_iff.1 h) o1 o2)
    rw [decide_eq_false c,decide_eq_false hne]
    simp (maxSteps:=1000000) (disch:=omega) only [rg,gD,simprocAttr,chsV,mv_len,show ¬ ((diffS (rowsS x) (rowsS y)).length:Int)=0 by omega]
    (refine fin_x rfl ?_ ?_<;>simp [pack,lo,loL,V.closed,closedL,mv_closed])
theorem row_unlike (a b:Wd) (ha:WdA a) (hb:WdA b):PCall Try.prog 3 [.agg [.int .i64 a.now,.int .i64 a.token,.fsl .loose 2 (mv dagV a.dags),.fsl .loose 5 (mv rnV a.runs)],.agg [.int .i64 b.now,.int .i64 b.token,.fsl .loose 2 (mv dagV b.dags),.fsl .loose 5 (mv rnV b.runs)]] (.bool true) :=
  law_unlike a b ha hb
end
end Go.Proofs.Ytkdeckmglbnfbaa.Ev
