/-
  Part 5 of what the proof of the statement RowsFit leans on: the evaluator, the functions in compact form, and what they answer.
-/
import Derived.Test.YtkdeckmglbnfbaaGreatM4
import Derived.Test.YtkdeckmglbnfbaaGreatProg
import Derived.KernelRfl
import Derived.Shelf.Strings.OnBuilder
import Derived.Shelf.SlSortCmp.NoneTotal
import Derived.Shelf.Small.Strs
import Derived.WalkKit
import Derived.ProofKit
set_option linter.unusedSimpArgs false
set_option linter.unusedVariables false
set_option maxRecDepth 10000
namespace Go.Proofs.YtkdeckmglbnfbaaGreat.Ev
open Go
theorem tk_not {ss:List Stt} {i:Nat} {t:Int}:t∉tokS (ss.take i)↔∀ j (h:j < ss.length),j < i→ss[j].token≠t:=by
  simp only [tokS,List.mem_map,not_exists,not_and,List.mem_take_iff_getElem]
  constructor
  · intro h j hj hji e
    exact h ss[j] ⟨j,by omega,rfl⟩ e
  · rintro h s ⟨j,hj,rfl⟩ e
    exact h j (by omega) (by omega) e
structure Sts (ts:List Task) (ss:List Stt):Prop where
  len:ss.length=ts.length
  trs:∀ i (h:i < ss.length) (h2:i < ts.length),trightS ts[i] ss[i]=true
  toks:∀ i (h:i < ss.length),0 < ss[i].token→∀ j (h:j < ss.length),j < i→ss[j].token≠ss[i].token
def Rdy (ts:List Task) (ss:List Stt):Prop:=∀ i (h:i < ss.length),ss[i].is≠0→ss[i].is≠5→readyS ts ss i=true
def Wai (ts:List Task) (ss:List Stt):Prop:=∀ i (h:i < ss.length),ss[i].is=0→readyS ts ss i=false
theorem nbad_iff {ts:List Task} {ss:List Stt} (hl:ss.length=ts.length):(∀ i,i < ss.length→badS ts ss i=false)↔Sts ts ss∧Rdy ts ss∧Wai ts ss:=by
  constructor
  · intro h
    have g:∀ i (h:i < ss.length) (h2:i < ts.length),trightS ts[i] ss[i]=true∧(0 < ss[i].token→ss[i].token∉tokS (ss.take i))∧(ss[i].is≠5→((decide (ss[i].is=0) == readyS ts ss i)=false)):=by
      intro i hi h2
      have:=h i hi
      rw [badS_get h2 hi] at this
      simp only [Bool.or_eq_false_iff,Bool.not_eq_false',Bool.and_eq_false_iff,decide_eq_false_iff_not] at this
      obtain ⟨⟨g1,g2⟩,g3⟩:=this
      exact ⟨g1,fun k => g2.resolve_left (fun e => e k),fun k => g3.resolve_left (fun e => e k)⟩
    refine ⟨⟨hl,fun i hi h2 => (g i hi h2).1,fun i hi k => tk_not.1 ((g i hi (by omega)).2.1 k)⟩,fun i hi k k5 => ?_,fun i hi k => ?_⟩
    · have:=(g i hi (by omega)).2.2 k5
      rw [decide_eq_false k] at this
      cases c:readyS ts ss i with
      | true => rfl
      | false => rw [c] at this; cases this
    · have:=(g i hi (by omega)).2.2 (by omega)
      rw [decide_eq_true k] at this
      cases c:readyS ts ss i with
      | false => rfl
      | true => rw [c] at this; cases this
  · rintro ⟨g,g2,g3⟩ i hi
    rw [badS_get (by omega) hi,g.trs i hi (by omega)]
    simp only [Bool.not_true,Bool.false_or,Bool.or_eq_false_iff,Bool.and_eq_false_iff,decide_eq_false_iff_not]
    refine ⟨?_, ?_⟩
    · by_cases c:0 < ss[i].token
      · exact .inr (tk_not.2 (g.toks i hi c))
      · exact .inl c
    · by_cases c:ss[i].is=5
      · exact .inl (by simp [c])
      · right
        by_cases c0:ss[i].is=0
        · rw [decide_eq_true c0,g3 i hi c0]; rfl
        · rw [decide_eq_false c0,g2 i hi c0 c]; rfl
/-! Which tasks are done says which are ready. -/
def doneL (ss:List Stt):List Bool:=ss.map fun s => decide (s.is=3)
theorem isDone_L (ss:List Stt) (x:Int):isDone ss x=((doneL ss)[x.toNat]?).getD false:=by
  unfold isDone doneL
  rw [List.getElem?_map]
  cases ss[x.toNat]?<;>rfl
theorem ready_L {ss ss':List Stt} (h:doneL ss'=doneL ss) (ts:List Task) (i:Nat):readyS ts ss' i=readyS ts ss i:=by
  unfold readyS
  congr 1; funext x
  rw [isDone_L,isDone_L,h]
theorem doneL_set {ss:List Stt} {i:Nat} {s:Stt} (hi:i < ss.length) (h:decide (s.is=3)=decide (ss[i].is=3)):doneL (ss.set i s)=doneL ss:=by
  unfold doneL
  rw [List.map_set,h]
  have:(ss.map fun s => decide (s.is=3))[i]'(by simpa using hi)=decide (ss[i].is=3):=by simp
  rw [← this]
  exact List.set_getElem_self _
theorem ready_mono {ts:List Task} {ss:List Stt} {i j:Nat} {s:Stt} (hi:i < ss.length) (h3:ss[i].is≠3) (h:readyS ts ss j=true):readyS ts (ss.set i s) j=true:=by
  unfold readyS at h ⊢
  rw [List.all_eq_true] at h ⊢
  intro x hx
  have:=h x hx
  by_cases e:i=x.toNat
  · subst e
    rw [isDone_get hi] at this
    simp [h3] at this
  · unfold isDone at this ⊢
    rw [List.getElem?_set_ne e]
    exact this
/-! Mending. -/
theorem canL_at (ss:List Stt):∀ k,k≤ss.length→∀ j (h:j < ss.length),(canL ss k)[j]?=some (if j < k then tcancelS ss[j] else ss[j])
  | 0,_,j,h => by simp [canL,h]
  | k+1,hk,j,h => by
    rw [canL_succ (show k < ss.length by omega),List.getElem?_set]
    have:=canL_at ss k (by omega) j h
    split
    · rename_i e; subst e
      first | rw [if_pos (by omega)] | rw [if_pos (by rw [canL_len]; omega),if_pos (by omega)]
    · rename_i e
      rw [this]
      congr 1
      by_cases c:j < k
      · rw [if_pos c,if_pos (by omega)]
      · rw [if_neg c,if_neg (by omega)]
theorem canL_all' (ss:List Stt) (j:Nat) (h:j < (canL ss ss.length).length):(canL ss ss.length)[j]=tcancelS (ss[j]'(by rwa [canL_len] at h)):=by
  have h':j < ss.length:=by rwa [canL_len] at h
  have:=canL_at ss ss.length (Nat.le_refl _) j h'
  rw [if_pos h',List.getElem?_eq_getElem h] at this
  exact Option.some.inj this
theorem tready_done (s:Stt):decide ((treadyS s).is=3)=decide (s.is=3):=by unfold treadyS; split<;>simp_all
theorem tcancel_done (s:Stt):decide ((tcancelS s).is=3)=decide (s.is=3):=by
  unfold tcancelS; split
  · rename_i h
    have:s.is≠3:=by omega
    simp [this]
  · rfl
theorem mendL_done (ts:List Task) (ss:List Stt):∀ k,k≤ss.length→doneL (mendL ts ss k)=doneL ss∧∀ j (h:j < ss.length),(mendL ts ss k)[j]?=some (if j < k∧readyS ts ss j=true then treadyS ss[j] else ss[j])
  | 0,_ => ⟨rfl,fun j h => by simp [mendL,h]⟩
  | k+1,hk => by
    obtain ⟨ih1,ih2⟩:=mendL_done ts ss k (by omega)
    have hk':k < ss.length:=by omega
    have hl:k < (mendL ts ss k).length:=by rw [mendL_len]; exact hk'
    have hkk:(mendL ts ss k)[k]=ss[k]:=by
      have:=ih2 k hk'
      rw [if_neg (by omega),List.getElem?_eq_getElem hl] at this
      exact Option.some.inj this
    rw [mendL_succ hk',ready_L ih1]
    by_cases c:readyS ts ss k=true
    · rw [if_pos c]
      refine ⟨(doneL_set hl (by rw [hkk,tready_done])).trans ih1,fun j h => ?_⟩
      rw [List.getElem?_set]
      split
      · rename_i e; subst e
        first | rw [if_pos ⟨by omega,c⟩] | rw [if_pos hl,if_pos ⟨by omega,c⟩]
      · rename_i e
        rw [ih2 j h]; congr 1
        by_cases c2:j < k∧readyS ts ss j=true
        · rw [if_pos c2,if_pos ⟨by omega,c2.2⟩]
        · rw [if_neg c2,if_neg (fun h => c2 ⟨by omega,h.2⟩)]
    · rw [if_neg c]
      refine ⟨ih1,fun j h => ?_⟩
      rw [ih2 j h]; congr 1
      by_cases c2:j < k∧readyS ts ss j=true
      · rw [if_pos c2,if_pos ⟨by omega,c2.2⟩]
      · rw [if_neg c2,if_neg (fun h => c2 ⟨by
          rcases Nat.lt_or_ge j k with q | q
          · exact q
          · obtain rfl:j=k:=by omega
            exact absurd h.2 c,h.2⟩)]
theorem mendL_all' (ts:List Task) (ss:List Stt) (j:Nat) (h:j < (mendL ts ss ss.length).length):(mendL ts ss ss.length)[j]=if readyS ts ss j=true then treadyS (ss[j]'(by rwa [mendL_len] at h)) else ss[j]'(by rwa [mendL_len] at h):=by
  have h':j < ss.length:=by rwa [mendL_len] at h
  have:=(mendL_done ts ss ss.length (Nat.le_refl _)).2 j h'
  rw [List.getElem?_eq_getElem h] at this
  have:=Option.some.inj this
  rw [this]
  by_cases c:readyS ts ss j=true
  · rw [if_pos ⟨h',c⟩,if_pos c]
  · rw [if_neg (fun h => c h.2),if_neg c]
structure Pm (r:Rn):Prop where
  name:1≤r.key.length∧r.key.length≤16
  dag:dagRightS r.dag=0
  is:r.is=0
  sts:Sts r.dag.tasks r.states
  no5:∀ s∈r.states,s.is≠5
  rdy:Rdy r.dag.tasks r.states
theorem RnR.parts {r:Rn} (h:RnR r):Sts r.dag.tasks r.states∧Rdy r.dag.tasks r.states∧Wai r.dag.tasks r.states:=(nbad_iff h.len).1 h.nbad
theorem RnR.no5 {r:Rn} (h:RnR r) (hi:r.is=0):∀ s∈r.states,s.is≠5:=fun s hs => by
  have:=cntS_zero.1 (h.goes hi) s hs
  simpa using this
theorem RnR.no4 {r:Rn} (h:RnR r) (hi:r.is=0):∀ s∈r.states,s.is≠4:=fun s hs => by
  have hk:=h.kind
  rw [hi] at hk
  unfold kindS at hk
  split at hk
  · cases hk
  split at hk
  · cases hk
  · rename_i c
    have:cntS [4] r.states=0:=by omega
    have:=cntS_zero.1 this s hs
    simpa using this
theorem RnR.opens {r:Rn} (h:RnR r) {s:Stt} (hs:s∈r.states) (h2:s.is=0∨s.is=1∨s.is=2):r.is=0:=by
  rcases Int.lt_trichotomy r.is 0 with c | c | c
  · have:=h.shut (by omega) s hs; omega
  · exact c
  · have:=h.shut (by omega) s hs; omega
theorem trs_stands {t:Task} {s:Stt} (h:trightS t s=true):standsS s=true∧TRightP t s:=by simpa [trightS] using h
theorem tright_cancel {t:Task} {s:Stt} (h:trightS t s=true):trightS t (tcancelS s)=true:=by
  obtain ⟨h1,h2⟩:=trs_stands h
  unfold tcancelS
  split
  · rename_i hc
    rw [standsS_iff] at h1
    refine trightS_yes ((standsS_iff _).2 ?_) ?_
    · have hr:s.result=[]:=(h1.2.2.2.2.2).resolve_right (by omega)
      exact ⟨⟨by simp,by simp,h1.1.2.2.1,h1.1.2.2.2.1,by simp,by simp⟩,⟨by simp,by simp,by simp,h1.2.2.2.2.1,.inl hr⟩⟩
    · exact ⟨h2.1,.inr (.inr (.inr (.inr (.inr ⟨rfl,rfl⟩))))⟩
  · exact h
theorem tright_ready {t:Task} {s:Stt} (ht:1≤t.tries) (h:trightS t s=true):trightS t (treadyS s)=true:=by
  obtain ⟨h1,h2⟩:=trs_stands h
  unfold treadyS
  split
  · rename_i hc
    rw [standsS_iff] at h1
    obtain ⟨h3,h4⟩:=h2
    refine trightS_yes ((standsS_iff _).2 ⟨⟨by simp,by simp,h1.1.2.2.1,h1.1.2.2.2.1,h1.1.2.2.2.2.1,h1.1.2.2.2.2.2⟩,⟨h1.2.1,h1.2.2.1, ?_,h1.2.2.2.2.1, ?_⟩⟩) ⟨h3,.inr (.inl ⟨rfl, ?_⟩)⟩
    · have:=h1.2.2.2.1; constructor
      · intro k; have:=this.1 k; omega
      · intro k; simp at k
    · exact .inl ((h1.2.2.2.2.2).resolve_right (by omega))
    · simp only; omega
  · exact h
theorem dag_tries {d:Dag} (h:dagRightS d=0):∀ t∈d.tasks,1≤t.tries∧t.tries≤8:=by
  intro t ht
  unfold dagRightS at h
  by_cases c0:10 < d.tasks.length
  · rw [if_pos c0] at h; cases h
  rw [if_neg c0] at h
  by_cases c1:d.tasks.length < 1∨d.name.length < 1∨16 < d.name.length∨(d.tasks.any fun t => !taskOkS t d.tasks.length)=true
  · rw [if_pos c1] at h; cases h
  · have hn:¬ (d.tasks.any fun t => !taskOkS t d.tasks.length)=true:=fun e => c1 (.inr (.inr (.inr e)))
    simp only [Bool.not_eq_true,List.any_eq_false,Bool.not_eq_true',Bool.not_eq_false] at hn
    have:=hn t ht
    simp only [taskOkS,taskNumS,Bool.and_eq_true,decide_eq_true_eq] at this
    exact ⟨this.2.1,this.2.2.1⟩
theorem mend_R {r:Rn} (h:Pm r):RnR (mendS r):=by
  have hn:=h.name
  have htr:=dag_tries h.dag
  have hlen:=h.sts.len
  unfold mendS
  by_cases c4:hasS r.states 4=true
  · rw [if_pos c4]
    obtain ⟨s4,hs4,e4⟩:=hasS_iff.1 c4
    have hg:=canL_all' r.states
    have hl:=canL_len r.states r.states.length
    have hcan:∀ j (h:j < (canL r.states r.states.length).length),(canL r.states r.states.length)[j].is≠0∧(canL r.states r.states.length)[j].is≠1∧(canL r.states r.states.length)[j].is≠2:=fun j hj => by
      rw [hg j hj]
      unfold tcancelS
      split
      · simp
      · rename_i c; omega
    have hdone:doneL (canL r.states r.states.length)=doneL r.states:=by
      unfold doneL
      apply List.ext_getElem
      · simp [hl]
      · intro j h1 h2
        simp only [List.getElem_map]
        rw [hg j (by simpa using h1),tcancel_done]
    have hz:cntS [0,1,2] (canL r.states r.states.length)=0:=cntS_zero.2 fun s hs => by
      obtain ⟨j,hj,rfl⟩:=List.mem_iff_getElem.1 hs
      have:=hcan j hj
      simp; omega
    have h4:∃ s∈canL r.states r.states.length,s.is=4:=by
      obtain ⟨j,hj,rfl⟩:=List.mem_iff_getElem.1 hs4
      refine ⟨(canL r.states r.states.length)[j]'(by rw [hl]; exact hj),List.getElem_mem _, ?_⟩
      rw [hg]; unfold tcancelS; rw [if_neg (by omega)]; exact e4
    have hk:kindS (canL r.states r.states.length)=2:=by
      unfold kindS
      rw [if_neg,if_pos]
      · rcases Nat.eq_zero_or_pos (cntS [4] (canL r.states r.states.length)) with z | z
        · obtain ⟨s,hs,e⟩:=h4
          have:=cntS_zero.1 z s hs
          simp [e] at this
        · exact z
      · intro z
        obtain ⟨s,hs,e⟩:=h4
        have:=cntS_all.1 z s hs
        simp [e] at this
    refine ⟨hn,h.dag,hl.trans hlen,hk.symm,(nbad_iff (hl.trans hlen)).2 ⟨⟨hl.trans hlen,fun j hj hj2 => ?_,fun j hj hp i hi hij => ?_⟩,fun j hj k0 k5 => ?_,fun j hj k0 => absurd k0 (hcan j hj).1⟩,fun _ => hz,fun e => by cases e⟩
    · rw [hg j hj]; exact tright_cancel (h.sts.trs j (by rwa [hl] at hj) hj2)
    · rw [hg j hj] at hp ⊢
      rw [hg i hi]
      have hj':j < r.states.length:=by rwa [hl] at hj
      have hi':i < r.states.length:=by rwa [hl] at hi
      have ht:∀ s:Stt,(tcancelS s).token=s.token∨(tcancelS s).token=0:=fun s => by unfold tcancelS; split<;>simp
      have ht0:∀ s:Stt,0 < (tcancelS s).token→(tcancelS s).token=s.token:=fun s hp => (ht s).resolve_right (by omega)
      have hpe:=ht0 _ hp
      rw [hpe] at hp ⊢
      rcases ht r.states[i] with e | e
      · rw [e]; exact h.sts.toks j hj' hp i hi' hij
      · rw [e]; omega
    · rw [ready_L hdone]
      have hj':j < r.states.length:=by rwa [hl] at hj
      have hm:=List.getElem_mem hj'
      rw [hg j hj] at k0 k5
      refine h.rdy j hj' ?_ (h.no5 _ hm)
      intro e
      unfold tcancelS at k5
      rw [if_pos (.inl e)] at k5
      exact k5 rfl
  · rw [if_neg c4]
    have hc4:∀ s∈r.states,s.is≠4:=hasS_not.1 (by simpa using c4)
    obtain ⟨hdone,_⟩:=mendL_done r.dag.tasks r.states r.states.length (Nat.le_refl _)
    have hg:=mendL_all' r.dag.tasks r.states
    have hl:=mendL_len r.dag.tasks r.states r.states.length
    have hrd:∀ s:Stt,((treadyS s).is=s.is∨(s.is=0∧(treadyS s).is=1))∧(treadyS s).token=s.token:=fun s => by
      unfold treadyS; split
      · rename_i e; exact ⟨.inr ⟨e,rfl⟩,rfl⟩
      · exact ⟨.inl rfl,rfl⟩
    have hpt:∀ j (h:j < (mendL r.dag.tasks r.states r.states.length).length),((mendL r.dag.tasks r.states r.states.length)[j].is=(r.states[j]'(by rwa [hl] at h)).is∨((r.states[j]'(by rwa [hl] at h)).is=0∧(mendL r.dag.tasks r.states r.states.length)[j].is=1))∧(mendL r.dag.tasks r.states r.states.length)[j].token=(r.states[j]'(by rwa [hl] at h)).token:=fun j hj => by
      rw [hg j hj]; split
      · exact hrd _
      · exact ⟨.inl rfl,rfl⟩
    have h45:∀ s∈mendL r.dag.tasks r.states r.states.length,s.is≠4∧s.is≠5:=fun s hs => by
      obtain ⟨j,hj,rfl⟩:=List.mem_iff_getElem.1 hs
      have hm:=List.getElem_mem (l:=r.states) (n:=j) (by rwa [hl] at hj)
      have a:=hc4 _ hm
      have b:=h.no5 _ hm
      rcases (hpt j hj).1 with e | ⟨_,e⟩<;>rw [e]
      · exact ⟨a,b⟩
      · omega
    have hst:∀ s∈mendL r.dag.tasks r.states r.states.length,0≤s.is∧s.is≤5:=fun s hs => by
      obtain ⟨j,hj,rfl⟩:=List.mem_iff_getElem.1 hs
      have hj':j < r.states.length:=by rwa [hl] at hj
      have:=((standsS_iff _).1 (trs_stands (h.sts.trs j hj' (by omega))).1).1
      rcases (hpt j hj).1 with e | ⟨_,e⟩<;>rw [e]<;>omega
    have h4z:cntS [4] (mendL r.dag.tasks r.states r.states.length)=0:=cntS_zero.2 fun s hs => by have:=h45 s hs; simp; omega
    have h5z:cntS [5] (mendL r.dag.tasks r.states r.states.length)=0:=cntS_zero.2 fun s hs => by have:=h45 s hs; simp; omega
    have hall:allS (mendL r.dag.tasks r.states r.states.length)=true↔cntS [3] (mendL r.dag.tasks r.states r.states.length)=(mendL r.dag.tasks r.states r.states.length).length:=by
      rw [cntS_all]; simp [allS]
    have hsts:Sts r.dag.tasks (mendL r.dag.tasks r.states r.states.length)∧Rdy r.dag.tasks (mendL r.dag.tasks r.states r.states.length)∧Wai r.dag.tasks (mendL r.dag.tasks r.states r.states.length):=by
      refine ⟨⟨hl.trans hlen,fun j hj hj2 => ?_,fun j hj hp i hi hij => ?_⟩,fun j hj k0 k5 => ?_,fun j hj k0 => ?_⟩
      · have hj':j < r.states.length:=by rwa [hl] at hj
        have ht:=h.sts.trs j hj' hj2
        rw [hg j hj]; split
        · exact tright_ready (htr _ (List.getElem_mem hj2)).1 ht
        · exact ht
      · rw [(hpt j hj).2] at hp ⊢
        rw [(hpt i hi).2]
        exact h.sts.toks j (by rwa [hl] at hj) hp i (by rwa [hl] at hi) hij
      · rw [ready_L hdone]
        have hj':j < r.states.length:=by rwa [hl] at hj
        by_cases e0:r.states[j].is=0
        · cases c:readyS r.dag.tasks r.states j with
          | true => rfl
          | false => rw [hg j hj,if_neg (by rw [c]; simp)] at k0; exact absurd e0 k0
        · exact h.rdy j hj' e0 (h.no5 _ (List.getElem_mem hj'))
      · rw [ready_L hdone]
        have hj':j < r.states.length:=by rwa [hl] at hj
        cases c:readyS r.dag.tasks r.states j with
        | false => rfl
        | true =>
          rw [hg j hj,if_pos c] at k0
          unfold treadyS at k0
          split at k0
          · cases k0
          · rename_i e; exact absurd k0 e
    have hkind:kindS (mendL r.dag.tasks r.states r.states.length)=if allS (mendL r.dag.tasks r.states r.states.length)=true then 1 else r.is:=by
      unfold kindS
      by_cases ca:allS (mendL r.dag.tasks r.states r.states.length)=true
      · rw [if_pos (hall.1 ca),if_pos ca]
      · rw [if_neg (fun e => ca (hall.2 e)),if_neg (by omega),if_neg ca,if_neg,h.is]
        intro z
        apply ca
        rw [hall,cntS_all]
        intro s hs
        have a:=cntS_zero.1 z s hs
        have b:=h45 s hs
        have d:=hst s hs
        simp at a ⊢; omega
    refine ⟨hn,h.dag,hl.trans hlen,hkind.symm,(nbad_iff (hl.trans hlen)).2 hsts,fun e => ?_,fun _ => h5z⟩
    exfalso
    simp only at e
    split at e
    · cases e
    · rw [h.is] at e; cases e
theorem set_Pm {r:Rn} (h:RnR r) {i:Nat} (hi:i < r.states.length) {s:Stt} (h2:r.states[i].is=2) (ht:trightS (r.dag.tasks[i]'(by rw [← h.len]; exact hi)) s=true) (h0:s.is≠0) (h5:s.is≠5) (htk:s.token=r.states[i].token∨s.token=0):Pm (withS r i s):=by
  have his:=h.opens (List.getElem_mem hi) (.inr (.inr h2))
  obtain ⟨hs,hr,hw⟩:=h.parts
  refine ⟨h.name,h.dag,his,⟨by simp [withS,h.len],fun j hj hj2 => ?_,fun j hj hp k hk hkj => ?_⟩,fun x hx => ?_,fun j hj k0 k5 => ?_⟩
  · simp only [withS,List.getElem_set]
    split
    · rename_i e; subst e; exact ht
    · exact hs.trs j (by simpa [withS] using hj) hj2
  · simp only [withS,List.length_set] at hj hk
    simp only [withS,List.getElem_set] at hp ⊢
    have hb:∀ a b (ha:a < r.states.length) (hb:b < r.states.length),a≠b→0 < r.states[a].token→r.states[b].token≠r.states[a].token:=fun a b ha hb hab hp => by
      rcases Nat.lt_or_gt_of_ne hab with q | q
      · intro e
        exact hs.toks b hb (by omega) a ha q e.symm
      · exact hs.toks a ha hp b hb q
    by_cases e1:i=j
    · subst e1
      rw [if_pos rfl] at hp ⊢
      rw [if_neg (by omega)]
      have ht':=htk.resolve_right (by omega)
      rw [ht'] at hp ⊢
      exact hb i k hi hk (by omega) hp
    · rw [if_neg e1] at hp ⊢
      by_cases e2:i=k
      · subst e2
        rw [if_pos rfl]
        rcases htk with e | e
        · rw [e]; exact hb j i hj hi (by omega) hp
        · rw [e]; omega
      · rw [if_neg e2]
        exact hs.toks j hj hp k hk hkj
  · simp only [withS] at hx
    rcases List.mem_or_eq_of_mem_set hx with hx | rfl
    · exact h.no5 his x hx
    · exact h5
  · simp only [withS,List.length_set] at hj
    simp only [withS,List.getElem_set] at k0 k5 ⊢
    refine ready_mono hi (by omega) ?_
    by_cases e:i=j
    · subst e; exact hr i hi (by omega) (by omega)
    · rw [if_neg e] at k0 k5
      exact hr j hj k0 k5
theorem fail_R {t:Task} {s:Stt} {now:Int} (h:trightS t s=true) (h2:s.is=2):trightS t (tfailS t s now).1=true∧(tfailS t s now).1.is≠0∧(tfailS t s now).1.is≠5∧(tfailS t s now).1.token=0:=by
  obtain ⟨h1,h3,h4⟩:=trs_stands h
  rw [standsS_iff] at h1
  have hr:s.result=[]:=(h1.2.2.2.2.2).resolve_right (by omega)
  unfold tfailS
  rw [if_neg (by omega)]
  split
  · rename_i c
    refine ⟨trightS_yes ((standsS_iff _).2 ⟨⟨by simp,by simp,h1.1.2.2.1,h1.1.2.2.2.1,by simp,by simp⟩,⟨by simp,by simp,by simp,h1.2.2.2.2.1,.inl hr⟩⟩) ⟨h3,.inr (.inr (.inr (.inr (.inl ⟨rfl,by simp only; omega,rfl⟩))))⟩,by simp,by simp,rfl⟩
  · rename_i c
    have hu:=untilS_range [now,afterS t.wait s.tried]
    refine ⟨trightS_yes ((standsS_iff _).2 ⟨⟨by simp,by simp,h1.1.2.2.1,h1.1.2.2.2.1,hu.1,hu.2⟩,⟨by simp,by simp,by simp,h1.2.2.2.2.1,.inl hr⟩⟩) ⟨h3,.inr (.inl ⟨rfl,by simp only; omega⟩)⟩,by simp,by simp,rfl⟩
theorem beat_R {t:Task} {s:Stt} {now:Int} (h:trightS t s=true) (h2:s.is=2):trightS t (tbeatS t s now).1=true∧(tbeatS t s now).1.is≠0∧(tbeatS t s now).1.is≠5∧(tbeatS t s now).1.token=s.token:=by
  obtain ⟨h1,h3,h4⟩:=trs_stands h
  rw [standsS_iff] at h1
  have hu:=untilS_range [now,t.lease]
  unfold tbeatS
  rw [if_neg (by omega)]
  refine ⟨trightS_yes ((standsS_iff _).2 ⟨⟨h1.1.1,h1.1.2.1,h1.1.2.2.1,h1.1.2.2.2.1,hu.1,hu.2⟩,h1.2⟩) ⟨h3,.inr (.inr (.inl ⟨h2, ?_⟩))⟩,by simp only; omega,by simp only; omega,rfl⟩
  simp only; omega
theorem done_R {t:Task} {s:Stt} {x:Str} (h:trightS t s=true) (h2:s.is=2) (hz:(tdoneS s x).2=0):trightS t (tdoneS s x).1=true∧(tdoneS s x).1.is≠0∧(tdoneS s x).1.is≠5∧(tdoneS s x).1.token=0:=by
  obtain ⟨h1,h3,h4⟩:=trs_stands h
  rw [standsS_iff] at h1
  unfold tdoneS at hz ⊢
  rw [if_neg (by omega)] at hz ⊢
  split at hz
  · cases hz
  · rename_i c
    rw [if_neg c]
    refine ⟨trightS_yes ((standsS_iff _).2 ⟨⟨by simp,by simp,h1.1.2.2.1,h1.1.2.2.2.1,by simp,by simp⟩,⟨by simp,by simp,by simp,by simp only; omega,.inr rfl⟩⟩) ⟨h3,.inr (.inr (.inr (.inl ⟨rfl,by simp only; omega,rfl⟩)))⟩,by simp,by simp,rfl⟩
theorem one_R {now:Int} {r:Rn} (h:RnR r):RnR (oneS now r):=by
  by_cases c:overS (untilS [now]) r.states r.states.length < 0
  · rw [oneS_none c]; exact h
  · obtain ⟨hi,e1,e2⟩:=overS_spec (untilS [now]) r.states r.states.length (Nat.le_refl _) (by omega)
    have ho:overS (untilS [now]) r.states r.states.length=((overS (untilS [now]) r.states r.states.length).toNat:Nat):=by omega
    generalize (overS (untilS [now]) r.states r.states.length).toNat=i at hi e1 e2 ho
    have hlen:=h.len
    rw [oneS_some ho (by omega) hi]
    have ht:=h.trs hi
    have:texpireS r.dag.tasks[i] r.states[i] now=(tfailS r.dag.tasks[i] r.states[i] r.states[i].due).1:=by
      unfold texpireS; rw [if_neg (by omega)]
    obtain ⟨f1,f2,f3,f4⟩:=fail_R (now:=r.states[i].due) ht e1
    rw [this]
    exact mend_R (set_Pm h hi e1 f1 f2 f3 (.inr f4))
theorem settle_R {now:Int} {r:Rn} (h:RnR r):RnR (settleS now r):=by
  unfold settleS
  generalize r.states.length=k
  induction k with
  | zero => exact h
  | succ k ih => exact one_R ih
theorem lease_R {r:Rn} {now token:Int} (h:RnR r) (hz:(leaseS now token r).2.2=0) :
    RnR (leaseS now token r).1∧∃ i,∃ hi:i < (settleS now r).states.length,∃ s:Stt,s.token=token∧(leaseS now token r).1=withS (settleS now r) i s:=by
  have hq:=settle_R (now:=now) h
  unfold leaseS leaseQ at hz ⊢
  generalize settleS now r=q at hq hz ⊢
  split at hz
  · cases hz
  split at hz
  · cases hz
  split at hz
  · cases hz
  rename_i h1 h2 h3
  rw [if_neg h1,if_neg h2,if_neg h3]
  split at hz
  case h_2 => cases hz
  rename_i i hi
  simp only [hi]
  obtain ⟨hg,hp,_⟩:=fndS_get hi
  have hlen:=hq.len
  have h3':q.is=0:=Classical.not_not.1 h3
  rw [leaseAt_get (by omega) hg]
  simp only [dueP,Bool.and_eq_true,decide_eq_true_eq] at hp
  have htr:=hq.trs hg
  obtain ⟨hst,htp⟩:=trs_stands htr
  have hst:=(standsS_iff _).1 hst
  have htries:=(dag_tries hq.dag) _ (List.getElem_mem (l:=q.dag.tasks) (n:=i) (by omega))
  have hu:=untilS_range [now,(q.dag.tasks[i]'(by omega)).lease]
  have hr:q.states[i].result=[]:=(hst.2.2.2.2.2).resolve_right (by omega)
  have hl:(tleaseS (q.dag.tasks[i]'(by omega)) q.states[i] now token).1=⟨2,q.states[i].tried+1,untilS [now,(q.dag.tasks[i]'(by omega)).lease],token,q.states[i].result⟩:=by
    unfold tleaseS; rw [if_neg h1,if_neg (by omega)]
  rw [hl]
  have hMT:MT=1099511627776:=rfl
  have hnt:∀ s∈q.states,s.token≠token:=fun s hs e => h2 (List.any_eq_true.2 ⟨s,hs,by simp [tokP,e]⟩)
  obtain ⟨p1,p2,p3⟩:=hq.parts
  have hdone:∀ s:Stt,s.is=2→doneL (q.states.set i s)=doneL q.states:=fun s e => doneL_set hg (by rw [e,hp.1]; rfl)
  refine ⟨?_,i,hg,_,rfl,rfl⟩
  have hm:(⟨2,q.states[i].tried+1,untilS [now,(q.dag.tasks[i]'(by omega)).lease],token,q.states[i].result⟩:Stt)∈q.states.set i ⟨2,q.states[i].tried+1,untilS [now,(q.dag.tasks[i]'(by omega)).lease],token,q.states[i].result⟩:=List.mem_set hg _
  have hmem:∀ s∈q.states.set i (⟨2,q.states[i].tried+1,untilS [now,(q.dag.tasks[i]'(by omega)).lease],token,q.states[i].result⟩:Stt),s∈q.states∨s.is=2:=fun s hs => (List.mem_or_eq_of_mem_set hs).imp (fun h => h) (fun e => by rw [e])
  refine ⟨hq.name,hq.dag,by simp [withS,hlen], ?_,(nbad_iff (by simp [withS,hlen])).2 ⟨⟨by simp [withS,hlen],fun j hj hj2 => ?_,fun j hj hpj k hk hkj => ?_⟩,fun j hj k0 k5 => ?_,fun j hj k0 => ?_⟩,fun e => ?_,fun _ => ?_⟩
  · simp only [withS]
    rw [h3']
    unfold kindS
    rw [if_neg,if_neg,if_neg]
    · intro z; have:=cntS_zero.1 z _ hm; simp at this
    · have:cntS [4] (q.states.set i (⟨2,q.states[i].tried+1,untilS [now,(q.dag.tasks[i]'(by omega)).lease],token,q.states[i].result⟩:Stt))=0:=cntS_zero.2 fun s hs => by
        rcases hmem s hs with hs | hs
        · have:=hq.no4 h3' s hs; simpa using this
        · simp [hs]
      omega
    · intro z; have:=cntS_all.1 z _ hm; simp at this
  · simp only [withS,List.getElem_set]
    split
    · rename_i e; subst e
      refine trightS_yes ((standsS_iff _).2 ⟨⟨by simp,by simp,by simp only; omega, ?_,hu.1,hu.2⟩,⟨by simp only; omega,by simp only; omega,by simp; omega,by simp [hr],.inl hr⟩⟩) ⟨?_,.inr (.inr (.inl ⟨rfl,by simp only; omega⟩))⟩
      · obtain ⟨t1,t2⟩:=htp; simp only; omega
      · obtain ⟨t1,t2⟩:=htp; simp only; omega
    · exact p1.trs j (by simpa [withS] using hj) hj2
  · simp only [withS,List.length_set] at hj hk
    simp only [withS,List.getElem_set] at hpj ⊢
    by_cases e1:i=j
    · rw [if_pos e1] at hpj ⊢
      rw [if_neg (by omega)]
      exact hnt _ (List.getElem_mem hk)
    · rw [if_neg e1] at hpj ⊢
      by_cases e2:i=k
      · rw [if_pos e2]
        exact fun e => hnt _ (List.getElem_mem hj) e.symm
      · rw [if_neg e2]
        exact p1.toks j hj hpj k hk hkj
  · simp only [withS,List.length_set] at hj
    simp only [withS] at k0 k5 ⊢
    rw [ready_L (hdone _ rfl)]
    simp only [List.getElem_set] at k0 k5
    by_cases e:i=j
    · subst e; exact p2 i hg (by omega) (by omega)
    · rw [if_neg e] at k0 k5; exact p2 j hj k0 k5
  · simp only [withS,List.length_set] at hj
    simp only [withS] at k0 ⊢
    rw [ready_L (hdone _ rfl)]
    simp only [List.getElem_set] at k0
    by_cases e:i=j
    · rw [if_pos e] at k0; cases k0
    · rw [if_neg e] at k0; exact p3 j hj k0
  · simp only [withS] at e; omega
  · refine cntS_zero.2 fun s hs => ?_
    rcases hmem s hs with hs | hs
    · have:=hq.no5 h3' s hs; simpa using this
    · simp [hs]
def AnsOk (f:Task→Stt→Stt×Int):Prop:=∀ t s,trightS t s=true→s.is=2→(f t s).2=0→trightS t (f t s).1=true∧(f t s).1.is≠0∧(f t s).1.is≠5∧((f t s).1.token=s.token∨(f t s).1.token=0)
theorem told_R {r:Rn} {now token:Int} {f:Task→Stt→Stt×Int} (hf:AnsOk f) (h:RnR r) (hz:(toldS now f token r).2=0):RnR (toldS now f token r).1∧∃ i,∃ hi:i < (settleS now r).states.length,∃ s:Stt,(s.token=(settleS now r).states[i].token∨s.token=0)∧(toldS now f token r).1=mendS (withS (settleS now r) i s):=by
  have hq:=settle_R (now:=now) h
  unfold toldS toldQ at hz ⊢
  generalize settleS now r=q at hq hz ⊢
  split at hz
  · cases hz
  rename_i i hi
  try simp only [hi]
  obtain ⟨hg,hp,_⟩:=fndS_get hi
  have hlen:=hq.len
  simp only [holdP,Bool.and_eq_true,decide_eq_true_eq] at hp
  have e1:q.dag.tasks[i]?=some (q.dag.tasks[i]'(by omega)):=List.getElem?_eq_getElem (by omega)
  have e2:q.states[i]?=some q.states[i]:=List.getElem?_eq_getElem hg
  simp only [e1,e2] at hz ⊢
  split at hz
  · rename_i hne; exact absurd hz hne
  · rename_i hne
    have hne':(f (q.dag.tasks[i]'(by omega)) q.states[i]).2=0:=Classical.not_not.1 hne
    rw [if_neg hne]
    obtain ⟨f1,f2,f3,f4⟩:=hf _ _ (hq.trs hg) hp.1 hne'
    exact ⟨mend_R (set_Pm hq hg hp.1 f1 f2 f3 f4),i,hg,_,f4,rfl⟩
theorem cancel_R {r:Rn} {now:Int} (h:RnR r) (hz:(cancelS now r).2=0):RnR (cancelS now r).1∧(cancelS now r).1.states=canL (settleS now r).states (settleS now r).states.length:=by
  have hq:=settle_R (now:=now) h
  unfold cancelS cancelQ at hz ⊢
  generalize settleS now r=q at hq hz ⊢
  split at hz
  · cases hz
  rename_i hne
  rw [if_neg hne]
  have h3':q.is=0:=Classical.not_not.1 hne
  refine ⟨?_,rfl⟩
  have hlen:=hq.len
  have hg:=canL_all' q.states
  have hl:=canL_len q.states q.states.length
  obtain ⟨p1,p2,p3⟩:=hq.parts
  have hcan:∀ s∈canL q.states q.states.length,s.is=3∨s.is=5:=fun s hs => by
    obtain ⟨j,hj,rfl⟩:=List.mem_iff_getElem.1 hs
    rw [hg j hj]
    have hj':j < q.states.length:=by rwa [hl] at hj
    have hm:=List.getElem_mem hj'
    have n4:=hq.no4 h3' _ hm
    have n5:=hq.no5 h3' _ hm
    have hst:=((standsS_iff _).1 (hq.stands _ hm)).1
    unfold tcancelS
    split
    · exact .inr rfl
    · rename_i c; left; omega
  have hdone:doneL (canL q.states q.states.length)=doneL q.states:=by
    unfold doneL
    apply List.ext_getElem
    · simp [hl]
    · intro j h1 h2
      simp only [List.getElem_map]
      rw [hg j (by simpa using h1),tcancel_done]
  -- a task that was open
  obtain ⟨s0,hs0,ho⟩:∃ s∈q.states,s.is=0∨s.is=1∨s.is=2:=by
    have hk:=hq.kind
    rw [h3'] at hk
    unfold kindS at hk
    split at hk
    · cases hk
    split at hk
    · cases hk
    split at hk
    · cases hk
    · rename_i c
      refine Classical.byContradiction fun hn => c (cntS_zero.2 fun s hs => ?_)
      have:¬ (s.is=0∨s.is=1∨s.is=2):=fun e => hn ⟨s,hs,e⟩
      simpa using this
  obtain ⟨j0,hj0,rfl⟩:=List.mem_iff_getElem.1 hs0
  have h5:(canL q.states q.states.length)[j0]'(by rw [hl]; exact hj0)∈canL q.states q.states.length:=List.getElem_mem _
  have h5':((canL q.states q.states.length)[j0]'(by rw [hl]; exact hj0)).is=5:=by
    rw [hg]; unfold tcancelS; rw [if_pos ho]
  have ht:∀ s:Stt,(tcancelS s).token=s.token∨(tcancelS s).token=0:=fun s => by unfold tcancelS; split<;>simp
  refine ⟨hq.name,hq.dag,hl.trans hlen, ?_,(nbad_iff (hl.trans hlen)).2 ⟨⟨hl.trans hlen,fun j hj hj2 => ?_,fun j hj hp i hi hij => ?_⟩,fun j hj k0 k5 => ?_,fun j hj k0 => ?_⟩,fun e => (by cases e),fun e => (by cases e)⟩
  · show (3:Int)=kindS _
    unfold kindS
    rw [if_neg,if_neg,if_pos]
    · exact cntS_zero.2 fun s hs => by have:=hcan s hs; simp; omega
    · have h4:cntS [4] (canL q.states q.states.length)=0:=cntS_zero.2 fun s hs => by have:=hcan s hs; simp; omega
      show ¬ 0 < cntS [4] (canL q.states q.states.length)
      omega
    · intro z; have:=cntS_all.1 z _ h5; simp [h5'] at this
  · rw [hg j hj]; exact tright_cancel (p1.trs j (by rwa [hl] at hj) hj2)
  · rw [hg j hj] at hp ⊢
    rw [hg i hi]
    have hpe:=(ht (q.states[j]'(by rwa [hl] at hj))).resolve_right (by omega)
    rw [hpe] at hp ⊢
    rcases ht (q.states[i]'(by rwa [hl] at hi)) with e | e
    · rw [e]; exact p1.toks j (by rwa [hl] at hj) hp i (by rwa [hl] at hi) hij
    · rw [e]; omega
  · rw [ready_L hdone]
    have hj':j < q.states.length:=by rwa [hl] at hj
    rw [hg j hj] at k0 k5
    refine p2 j hj' ?_ ?_
    · intro e; unfold tcancelS at k5; rw [if_pos (.inl e)] at k5; exact k5 rfl
    · intro e; unfold tcancelS at k5; rw [if_neg (by omega)] at k5; exact k5 e
  · have:=hcan _ (List.getElem_mem hj); omega
theorem new_R {key:Str} {d:Dag} (hk:1≤key.length∧key.length≤16) (hd:dagRightS d=0):RnR (newS key d):=by
  have htr:=dag_tries hd
  refine mend_R ⟨hk,hd,rfl,⟨startS_len key d,fun j hj hj2 => ?_,fun j hj hp => ?_⟩,fun s hs => ?_,fun j hj k0 => ?_⟩
  · simp only [startS,List.getElem_replicate]
    have:=htr _ (List.getElem_mem hj2)
    refine trightS_yes ((standsS_iff _).2 (by simp [zS])) ⟨by simp [zS]; exact Int.le_trans (by omega) this.1,.inl ⟨rfl,rfl,rfl⟩⟩
  · simp [startS,zS] at hp
  · simp only [startS,List.mem_replicate] at hs; rw [hs.2]; simp [zS]
  · simp [startS,zS] at k0
inductive TkR:List Int→List Int→Prop where
  | nil:TkR [] []
  | cons {a b:Int} {l l':List Int}:(b=a∨b=0)→TkR l l'→TkR (a::l) (b::l')
theorem TkR.refl:∀ l,TkR l l
  | [] => .nil
  | a::l => .cons (.inl rfl) (.refl l)
theorem TkR.trans {a b:List Int} (h:TkR a b):∀ {c},TkR b c→TkR a c:=by
  induction h with
  | nil => intro c k; exact k
  | cons e _ ih =>
    intro c k
    cases k with
    | cons e2 k => exact .cons (by omega) (ih k)
theorem TkR.app {a b c d:List Int} (h:TkR a b) (k:TkR c d):TkR (a++c) (b++d):=by
  induction h with
  | nil => exact k
  | cons e _ ih => exact .cons e ih
theorem TkR.of_get:∀ {l l':List Int},l'.length=l.length→(∀ i (h:i < l.length) (h':i < l'.length),l'[i]=l[i]∨l'[i]=0)→TkR l l'
  | [],[],_,_ => .nil
  | [],_::_,h,_ => by simp at h
  | _::_,[],h,_ => by simp at h
  | a::l,b::l',h,k => .cons (k 0 (by simp) (by simp)) (TkR.of_get (by simpa using h) fun i h1 h2 => by
    have:=k (i+1) (by simpa using h1) (by simpa using h2)
    simpa only [List.getElem_cons_succ] using this)
theorem TkR.mem {l l':List Int} (h:TkR l l'):∀ t∈l',t∈l∨t=0:=by
  induction h with
  | nil => intro t ht; simp at ht
  | cons e _ ih =>
    intro t ht
    rcases List.mem_cons.1 ht with rfl | ht
    · rcases e with rfl | e
      · exact .inl (by simp)
      · exact .inr e
    · exact (ih t ht).imp (fun h => by simp [h]) (fun h => h)
theorem TkR.tk {tok:Int} {l l':List Int} (h:TkR l l') (h0:0≤tok) (k:Tk tok l):Tk tok l':=by
  refine ⟨fun t ht => ?_, ?_⟩
  · rcases h.mem t ht with h | h
    · exact k.1 t h
    · omega
  · have k2:=k.2
    clear k
    induction h with
    | nil => exact k2
    | @cons a b l l' e hh ih =>
      simp only [List.filter_cons] at k2 ⊢
      by_cases cb:0 < b
      · have e':b=a:=e.resolve_right (by omega)
        subst e'
        simp only [cb,decide_true,if_true,List.nodup_cons] at k2 ⊢
        refine ⟨fun hm => k2.1 ?_,ih k2.2⟩
        rw [List.mem_filter] at hm ⊢
        exact ⟨(hh.mem b hm.1).resolve_right (by omega),hm.2⟩
      · simp only [cb,decide_false,Bool.false_eq_true,if_false]
        refine ih ?_
        split at k2
        · exact (List.nodup_cons.1 k2).2
        · exact k2
theorem Tk.mono {t t':Int} {l:List Int} (h:Tk t l) (hl:t≤t'):Tk t' l:=⟨fun x hx => Int.le_trans (h.1 x hx) hl,h.2⟩
theorem Tk.new {tok:Int} {P Q:List Int} {x:Int} (h:Tk tok (P++x::Q)) (h0:0≤tok):Tk (tok+1) (P++(tok+1)::Q):=by
  have hx:∀ t∈P++Q,t≤tok:=fun t ht => h.1 t (by rcases List.mem_append.1 ht with h | h<;>simp [h])
  have hn:((P++Q).filter fun t => decide (0 < t)).Nodup:=by
    have:=h.2
    rw [List.filter_append] at this ⊢
    simp only [List.filter_cons] at this
    split at this
    · rw [List.nodup_append] at this ⊢
      exact ⟨this.1,(List.nodup_cons.1 this.2.1).2,fun a ha b hb => this.2.2 a ha b (by simp [hb])⟩
    · exact this
  refine ⟨fun t ht => ?_, ?_⟩
  · rcases List.mem_append.1 ht with h | h
    · have:=hx t (by simp [h]); omega
    · rcases List.mem_cons.1 h with rfl | h
      · exact Int.le_refl _
      · have:=hx t (by simp [h]); omega
  · rw [List.filter_append] at hn ⊢
    simp only [List.filter_cons,show 0 < tok+1 by omega,decide_true,if_true]
    rw [List.nodup_append] at hn ⊢
    refine ⟨hn.1,List.nodup_cons.2 ⟨fun hm => ?_,hn.2.1⟩,fun a ha b hb => ?_⟩
    · have:=hx _ (List.mem_append_right _ (List.mem_filter.1 hm).1); omega
    · rcases List.mem_cons.1 hb with rfl | hb
      · have:=hx a (List.mem_append_left _ (List.mem_filter.1 ha).1); omega
      · exact hn.2.2 a ha b hb
theorem Tk.zeros {tok:Int} {A B Z:List Int} (h:Tk tok (A++B)) (h0:0≤tok) (hz:∀ t∈Z,t=0):Tk tok (A++(Z++B)):=by
  refine ⟨fun t ht => ?_, ?_⟩
  · rcases List.mem_append.1 ht with k | k
    · exact h.1 t (by simp [k])
    · rcases List.mem_append.1 k with k | k
      · rw [hz t k]; exact h0
      · exact h.1 t (by simp [k])
  · have e:Z.filter (fun t => decide (0 < t))=[]:=by
      rw [List.filter_eq_nil_iff]; intro t ht; rw [hz t ht]; simp
    have:=h.2
    rw [List.filter_append] at this ⊢
    rw [List.filter_append,e]; exact this
/-! The tokens of runs. -/
theorem toks_set {ss:List Stt} {i:Nat} {s:Stt} (hi:i < ss.length) (h:s.token=ss[i].token∨s.token=0):TkR (tokS ss) (tokS (ss.set i s)):=by
  refine TkR.of_get (by simp [tokS]) fun j h1 h2 => ?_
  simp only [tokS,List.getElem_map,List.getElem_set]
  split
  · rename_i e; subst e; exact h
  · exact .inl rfl
theorem toks_can (ss:List Stt):TkR (tokS ss) (tokS (canL ss ss.length)):=by
  refine TkR.of_get (by simp [tokS,canL_len]) fun j h1 h2 => ?_
  simp only [tokS,List.getElem_map]
  rw [canL_all']
  unfold tcancelS; split<;>simp
theorem toks_mendL (ts:List Task) (ss:List Stt):TkR (tokS ss) (tokS (mendL ts ss ss.length)):=by
  refine TkR.of_get (by simp [tokS,mendL_len]) fun j h1 h2 => ?_
  simp only [tokS,List.getElem_map]
  rw [mendL_all']
  split
  · unfold treadyS; split<;>simp
  · exact .inl rfl
theorem toks_mend (r:Rn):TkR (tokS r.states) (tokS (mendS r).states):=by
  unfold mendS; split
  · exact toks_can _
  · exact toks_mendL _ _
theorem toks_one {now:Int} {r:Rn} (h:RnR r):TkR (tokS r.states) (tokS (oneS now r).states):=by
  by_cases c:overS (untilS [now]) r.states r.states.length < 0
  · rw [oneS_none c]; exact .refl _
  · obtain ⟨hi,e1,e2⟩:=overS_spec (untilS [now]) r.states r.states.length (Nat.le_refl _) (by omega)
    have ho:overS (untilS [now]) r.states r.states.length=((overS (untilS [now]) r.states r.states.length).toNat:Nat):=by omega
    generalize (overS (untilS [now]) r.states r.states.length).toNat=i at hi e1 e2 ho
    have hlen:=h.len
    rw [oneS_some ho (by omega) hi]
    have:texpireS r.dag.tasks[i] r.states[i] now=(tfailS r.dag.tasks[i] r.states[i] r.states[i].due).1:=by
      unfold texpireS; rw [if_neg (by omega)]
    obtain ⟨f1,f2,f3,f4⟩:=fail_R (now:=r.states[i].due) (h.trs hi) e1
    rw [this]
    exact (toks_set hi (.inr f4)).trans (toks_mend (withS r i (tfailS r.dag.tasks[i] r.states[i] r.states[i].due).1))
theorem toks_settle {now:Int} {r:Rn} (h:RnR r):TkR (tokS r.states) (tokS (settleS now r).states):=by
  unfold settleS
  generalize r.states.length=k
  have:∀ k,RnR (rndS now r k)∧TkR (tokS r.states) (tokS (rndS now r k).states):=fun k => by
    induction k with
    | zero => exact ⟨h,.refl _⟩
    | succ k ih => exact ⟨one_R ih.1,ih.2.trans (toks_one ih.1)⟩
  exact (this k).2
theorem toks_told {r:Rn} {now token:Int} {f:Task→Stt→Stt×Int} (hf:AnsOk f) (h:RnR r) (hz:(toldS now f token r).2=0):TkR (tokS r.states) (tokS (toldS now f token r).1.states):=by
  obtain ⟨_,i,hi,s,hs,e⟩:=told_R hf h hz
  rw [e]
  exact (toks_settle h).trans ((toks_set hi hs).trans (toks_mend (withS (settleS now r) i s)))
theorem toks_cancel {r:Rn} {now:Int} (h:RnR r) (hz:(cancelS now r).2=0):TkR (tokS r.states) (tokS (cancelS now r).1.states):=by
  rw [(cancel_R h hz).2]
  exact (toks_settle h).trans (toks_can _)
theorem toks_new (key:Str) (d:Dag):∀ t∈tokS (newS key d).states,t=0:=by
  have:∀ s∈(newS key d).states,s.token=0:=mendS_all (p:=fun s => s.token=0) (fun s hs => by unfold tcancelS; split<;>simp [hs]) (fun s hs => by unfold treadyS; split<;>simp [hs]) fun s hs => by
    simp only [startS,List.mem_replicate] at hs; rw [hs.2]; rfl
  intro t ht
  simp only [tokS,List.mem_map] at ht
  obtain ⟨s,hs,rfl⟩:=ht
  exact this s hs
theorem toksR_ap (a b:List Rn):toksR (a++b)=toksR a++toksR b:=by simp [toksR]
theorem toksR_cons (r:Rn) (l:List Rn):toksR (r::l)=tokS r.states++toksR l:=by simp [toksR]
theorem toksR_at {l:List Rn} {i:Nat} (hi:i < l.length):toksR l=toksR (l.take i)++(tokS l[i].states++toksR (l.drop (i+1))):=by
  have:=List.take_append_drop i l
  rw [List.drop_eq_getElem_cons hi] at this
  conv => lhs; rw [← this]
  rw [toksR_ap,toksR_cons]
theorem toksR_set {l:List Rn} {i:Nat} {r:Rn} (hi:i < l.length):toksR (l.set i r)=toksR (l.take i)++(tokS r.states++toksR (l.drop (i+1))):=by
  rw [List.set_eq_take_append_cons_drop,if_pos hi,toksR_ap,toksR_cons]
theorem WR.set {w:Wd} (h:WR w) {i:Nat} (hi:i < w.runs.length) {r:Rn} {tok:Int} (hk:r.key=w.runs[i].key) (hd:r.dag=w.runs[i].dag) (hr:RnR r) (ht:0≤tok∧tok≤MT) (htk:Tk tok (toksR (w.runs.set i r))) :
    WR { w with runs:=w.runs.set i r,token:=tok }:=by
  have hm:=List.getElem_mem hi
  refine ⟨h.now,ht,h.ndags,by simp only [List.length_set]; exact h.nruns,h.rdags, ?_,h.dags,fun x hx => ?_,htk⟩
  · have:runsN (w.runs.set i r)=runsN w.runs:=by
      unfold runsN
      rw [List.map_set,hk]
      have e:(w.runs.map (·.key))[i]'(by simpa using hi)=w.runs[i].key:=by simp
      rw [← e]; exact List.set_getElem_self _
    simp only [this]; exact h.rruns
  · rcases List.mem_or_eq_of_mem_set hx with hx | rfl
    · exact h.runs x hx
    · exact ⟨hd ▸ (h.runs _ hm).1,hr⟩
theorem rise_put {l:List Str} {t:Str} (hr:Rise l) (hn:t∉l):Rise (l.take (lbS t l)++t::l.drop (lbS t l)):=by
  have hlb:=lb_rise hr t
  have hpw:l.Pairwise fun a b => ltS a b=true:=List.pairwise_iff_getElem.2 fun i j hi hj hij => rise_lt hr j i hj hij
  have hP:(l.take (lbS t l)++t::l.drop (lbS t l)).Pairwise fun a b => ltS a b=true:=by
    rw [List.pairwise_append]
    refine ⟨hpw.sublist (List.take_sublist _ _),List.pairwise_cons.2 ⟨fun a ha => ?_,hpw.sublist (List.drop_sublist _ _)⟩,fun a ha b hb => ?_⟩
    · obtain ⟨j,hj,rfl⟩:=List.mem_drop_iff_getElem.1 ha
      have:=hlb.hi (lbS t l+j) (by omega) (by omega)
      rcases lt_not this with e | e
      · exact absurd (e ▸ List.getElem_mem _) hn
      · exact e
    · obtain ⟨j,hj,rfl⟩:=List.mem_take_iff_getElem.1 ha
      rcases List.mem_cons.1 hb with rfl | hb
      · exact hlb.lo j (by omega) (by omega)
      · obtain ⟨k,hk,rfl⟩:=List.mem_drop_iff_getElem.1 hb
        exact rise_lt hr _ j (by omega) (by omega)
  intro i hi
  exact List.pairwise_iff_getElem.1 hP i (i+1) (by omega) hi (by omega)
theorem keeps (w:Wd) (c:Cmd) (h:WR w):WR (kindW w c).1:=by
  have hMT:MT=1099511627776:=rfl
  have htold:∀ f:Task→Stt→Stt×Int,AnsOk f→WR (toldW w f c.token).1:=fun f hf => by
    unfold toldW
    split
    · exact h
    · rename_i i hi
      obtain ⟨hg,_,_⟩:=fndS_get hi
      rw [getD_get hg]
      split
      · exact h
      · rename_i hz
        have hz':(toldS w.now f c.token w.runs[i]).2=0:=Classical.not_not.1 hz
        have hm:=List.getElem_mem hg
        have hr:=(h.runs _ hm).2
        have hs:Shp w.runs[i] (toldS w.now f c.token w.runs[i]).1:=by
          obtain ⟨_,j,hj,s,_,e⟩:=told_R hf hr hz'
          rw [e]; exact (settleS_shp _ _).trans ((withS_shp _ _ _).trans (mendS_shp _))
        refine h.set hg hs.key hs.dag (told_R hf hr hz').1 h.token ?_
        rw [toksR_set hg]
        refine TkR.tk ((TkR.refl _).app ((toks_told hf hr hz').app (.refl _))) h.token.1 ?_
        rw [← toksR_at hg]; exact h.toks
  unfold kindW
  by_cases k1:c.kind=1
  · rw [if_pos k1]; unfold graphS; repeat' split
    all_goals first | exact h | skip
    rename_i h1 h2 h3
    have hd:dagRightS c.dag=0:=Classical.not_not.1 h1
    have hmem:∀ d∈w.dags,d∈putD w.dags c.dag:=fun d hd => by
      unfold putD
      rw [← List.take_append_drop (lbD c.dag.name w.dags) w.dags] at hd
      rcases List.mem_append.1 hd with k | k
      · exact List.mem_append_left _ k
      · exact List.mem_append_right _ (List.mem_cons_of_mem _ k)
    refine ⟨h.now,h.token, ?_,h.nruns, ?_,h.rruns,fun d hx => ?_,fun r hr => ⟨hmem _ (h.runs r hr).1,(h.runs r hr).2⟩,h.toks⟩
    · simp only [putD,List.length_append,List.length_take,List.length_cons,List.length_drop]; omega
    · have:=rise_put h.rdags h2
      simp only [putD,dagsN,List.map_append,List.map_cons,List.map_take,List.map_drop]
      exact this
    · rcases mem_put (e:=0) hx with hx | rfl
      · exact h.dags d hx
      · exact hd
  rw [if_neg k1]; by_cases k2:c.kind=2
  · rw [if_pos k2]; unfold beginS; repeat' split
    all_goals first | exact h | skip
    rename_i hk1 hin hk3 hk4
    have hin':c.name∈dagsN w.dags:=Classical.not_not.1 hin
    obtain ⟨hi,hnm⟩:=lbD_get h.rdags hin'
    rw [getD_get hi]
    have hm:=List.getElem_mem hi
    have hnk:=new_key c.key w.dags[lbD c.name w.dags]
    have hnew:=new_R (key:=c.key) (by omega) (h.dags _ hm)
    have hnd:(newS c.key w.dags[lbD c.name w.dags]).dag=w.dags[lbD c.name w.dags]:=(mendS_shp _).dag
    have htk:=toks_new c.key w.dags[lbD c.name w.dags]
    generalize newS c.key w.dags[lbD c.name w.dags]=nr at hnk hnew hnd htk
    have hput:putR w.runs nr=w.runs.take (lbR c.key w.runs)++nr::w.runs.drop (lbR c.key w.runs):=by
      unfold putR; rw [hnk,if_neg hk3,Nat.add_zero]
    refine ⟨h.now,h.token,h.ndags, ?_,h.rdags, ?_,h.dags,fun d hx => ?_, ?_⟩
    · simp only [hput,List.length_append,List.length_take,List.length_cons,List.length_drop]; omega
    · have:=rise_put h.rruns hk3
      simp only [hput,runsN,List.map_append,List.map_cons,List.map_take,List.map_drop,hnk]
      exact this
    · simp only [hput] at hx
      rcases mem_put (e:=0) hx with hx | rfl
      · exact h.runs d hx
      · exact ⟨hnd ▸ hm,hnew⟩
    · simp only [hput,toksR_ap,toksR_cons]
      refine Tk.zeros ?_ h.token.1 htk
      rw [← toksR_ap,List.take_append_drop]; exact h.toks
  rw [if_neg k2]; by_cases k3:c.kind=3
  · rw [if_pos k3]; unfold pollS; split
    · exact h
    rename_i htok
    split
    · exact h
    · rename_i i hi
      obtain ⟨hg,hp,_⟩:=fndS_get hi
      rw [getD_get hg]
      have hm:=List.getElem_mem hg
      have hr:=(h.runs _ hm).2
      have hz:(leaseS w.now (w.token+1) w.runs[i]).2.2=0:=by simpa [leaseP] using hp
      obtain ⟨hR,j,hj,s,hs,e⟩:=lease_R hr hz
      have hsh:Shp w.runs[i] (leaseS w.now (w.token+1) w.runs[i]).1:=by rw [e]; exact (settleS_shp _ _).trans (withS_shp _ _ _)
      have h0:=h.token
      refine h.set hg hsh.key hsh.dag hR ⟨by omega,by omega⟩ ?_
      rw [toksR_set hg,e]
      have h1:Tk w.token (toksR (w.runs.take i)++(tokS (settleS w.now w.runs[i]).states++toksR (w.runs.drop (i+1)))):=by
        refine TkR.tk ((TkR.refl _).app ((toks_settle hr).app (.refl _))) h.token.1 ?_
        rw [← toksR_at hg]; exact h.toks
      generalize settleS w.now w.runs[i]=q at hj h1
      have e1:tokS q.states=(tokS q.states).take j++(tokS q.states)[j]'(by simpa [tokS] using hj)::(tokS q.states).drop (j+1):=by
        rw [← List.drop_eq_getElem_cons,List.take_append_drop]
      have e2:tokS (withS q j s).states=(tokS q.states).take j++(w.token+1)::(tokS q.states).drop (j+1):=by
        simp only [withS,tokS,List.map_set,hs]
        rw [List.set_eq_take_append_cons_drop,if_pos (by simpa using hj)]
      rw [e1] at h1
      rw [e2]
      have:=Tk.new (P:=toksR (w.runs.take i)++(tokS q.states).take j) (Q:=(tokS q.states).drop (j+1)++toksR (w.runs.drop (i+1))) (x:=(tokS q.states)[j]'(by simpa [tokS] using hj)) (tok:=w.token) (by simpa only [List.append_assoc,List.cons_append] using h1) h.token.1
      simpa only [List.append_assoc,List.cons_append] using this
  rw [if_neg k3]; by_cases k4:c.kind=4
  · rw [if_pos k4]; exact htold _ fun t s h1 h2 _ => by obtain ⟨a,b,c,d⟩:=beat_R (now:=w.now) h1 h2; exact ⟨a,b,c,.inl d⟩
  rw [if_neg k4]; by_cases k5:c.kind=5
  · rw [if_pos k5]; exact htold _ fun t s h1 h2 h3 => by obtain ⟨a,b,c,d⟩:=done_R h1 h2 h3; exact ⟨a,b,c,.inr d⟩
  rw [if_neg k5]; by_cases k6:c.kind=6
  · rw [if_pos k6]; exact htold _ fun t s h1 h2 _ => by obtain ⟨a,b,c,d⟩:=fail_R (now:=w.now) h1 h2; exact ⟨a,b,c,.inr d⟩
  rw [if_neg k6]; by_cases k7:c.kind=7
  · rw [if_pos k7]; unfold cancelW; split
    · exact h
    split
    · exact h
    · rename_i hc hz
      obtain ⟨hi,hnm⟩:=lbR_get h.rruns (Classical.not_not.1 hc)
      rw [getD_get hi] at hz ⊢
      have hm:=List.getElem_mem hi
      have hr:=(h.runs _ hm).2
      have hz':(cancelS w.now w.runs[lbR c.key w.runs]).2=0:=Classical.not_not.1 hz
      have hs:Shp w.runs[lbR c.key w.runs] (cancelS w.now w.runs[lbR c.key w.runs]).1:=by
        unfold cancelS cancelQ at hz' ⊢
        split at hz'
        · cases hz'
        · rename_i hq; rw [if_neg hq]
          have hs:=settleS_shp w.now w.runs[lbR c.key w.runs]
          exact ⟨hs.key,hs.dag,(canL_len _ _).trans hs.len⟩
      refine h.set hi hs.key hs.dag (cancel_R hr hz').1 h.token ?_
      rw [toksR_set hi]
      refine TkR.tk ((TkR.refl _).app ((toks_cancel hr hz').app (.refl _))) h.token.1 ?_
      rw [← toksR_at hi]; exact h.toks
  rw [if_neg k7]; by_cases k8:c.kind=8
  · rw [if_pos k8]; unfold tickW; split
    · exact h
    · rename_i c
      exact ⟨by have:=h.now; simp only; omega,h.token,h.ndags,h.nruns,h.rdags,h.rruns,h.dags,h.runs,h.toks⟩
  rw [if_neg k8]; by_cases k9:c.kind=9
  · rw [if_pos k9]; unfold stateW; split<;>exact h
  rw [if_neg k9]; split<;>exact h
structure Kp (s s':Stt):Prop where
  tried:s'.tried=s.tried
  done:s.is=3→s'.is=3∧s'.result=s.result
theorem Kp.refl (s:Stt):Kp s s:=⟨rfl,fun h => ⟨h,rfl⟩⟩
theorem Kp.trans {a b c:Stt} (h:Kp a b) (k:Kp b c):Kp a c:=⟨k.tried.trans h.tried,fun e => let ⟨e1,e2⟩:=h.done e; let ⟨e3,e4⟩:=k.done e1; ⟨e3,e4.trans e2⟩⟩
theorem Kp.cancel (s:Stt):Kp s (tcancelS s):=by
  unfold tcancelS; split
  · exact ⟨rfl,fun e => by omega⟩
  · exact .refl s
theorem Kp.ready (s:Stt):Kp s (treadyS s):=by
  unfold treadyS; split
  · exact ⟨rfl,fun e => by omega⟩
  · exact .refl s
theorem Kp.fail {t:Task} {s:Stt} {now:Int} (h:s.is=2):Kp s (tfailS t s now).1:=by
  unfold tfailS; rw [if_neg (by omega)]; split<;>exact ⟨rfl,fun e => by omega⟩
theorem Kp.expire (t:Task) (s:Stt) (now:Int):Kp s (texpireS t s now):=by
  unfold texpireS; split
  · exact .refl s
  · exact .fail (by omega)
structure Kr (r r':Rn):Prop where
  key:r'.key=r.key
  len:r'.states.length=r.states.length
  each:∀ i (h:i < r.states.length) (h':i < r'.states.length),Kp r.states[i] r'.states[i]
theorem Kr.refl (r:Rn):Kr r r:=⟨rfl,rfl,fun _ _ _ => .refl _⟩
theorem Kr.trans {a b c:Rn} (h:Kr a b) (k:Kr b c):Kr a c :=
  ⟨k.key.trans h.key,k.len.trans h.len,fun i h1 h2 => (h.each i h1 (by rw [h.len]; exact h1)).trans (k.each i _ h2)⟩
theorem Kr.set {r:Rn} {i:Nat} (hi:i < r.states.length) {s:Stt} (h:Kp r.states[i] s):Kr r (withS r i s):=by
  refine ⟨rfl,by simp [withS],fun j h1 h2 => ?_⟩
  simp only [withS,List.getElem_set]
  split
  · rename_i e; subst e; exact h
  · exact .refl _
theorem Kr.can (r:Rn) (x:Int):Kr r { r with is:=x,states:=canL r.states r.states.length } :=
  ⟨rfl,canL_len _ _,fun j h1 h2 => by simp only [canL_all']; exact .cancel _⟩
theorem Kr.mend (r:Rn):Kr r (mendS r):=by
  unfold mendS; split
  · exact .can r 2
  · refine ⟨rfl,mendL_len _ _ _,fun j h1 h2 => ?_⟩
    simp only [mendL_all']
    split
    · exact .ready _
    · exact .refl _
theorem Kr.one (now:Int) (r:Rn):Kr r (oneS now r):=by
  unfold oneS; split
  · exact .refl r
  split
  · rename_i t s h1 h2
    obtain ⟨hi,e⟩:=List.getElem?_eq_some_iff.1 h2
    exact (Kr.set hi (e ▸ .expire t _ now)).trans (.mend _)
  · exact .refl r
theorem Kr.rnd (now:Int) (r:Rn):∀ k,Kr r (rndS now r k)
  | 0 => .refl r
  | k+1 => (Kr.rnd now r k).trans (.one now _)
theorem Kr.settle (now:Int) (r:Rn):Kr r (settleS now r):=Kr.rnd now r _
theorem Kr.told {now token:Int} {f:Task→Stt→Stt×Int} {r:Rn} (hf:∀ t s,s.is=2→(f t s).2=0→Kp s (f t s).1) (h:(toldS now f token r).2=0):Kr r (toldS now f token r).1:=by
  unfold toldS toldQ at h ⊢
  have hs:=Kr.settle now r
  generalize settleS now r=q at h hs ⊢
  split at h
  · cases h
  rename_i i hi
  try simp only [hi]
  obtain ⟨hg,hp,_⟩:=fndS_get hi
  simp only [holdP,Bool.and_eq_true,decide_eq_true_eq] at hp
  split at h
  · rename_i t s h1 h2
    obtain ⟨hi2,e⟩:=List.getElem?_eq_some_iff.1 h2
    split at h
    · rename_i hne; exact absurd h hne
    · rename_i hne
      try simp only [h1,h2]
      rw [if_neg hne]
      refine hs.trans ((Kr.set hi2 ?_).trans (.mend _))
      rw [e]; exact hf t s (by rw [← e]; exact hp.1) (Classical.not_not.1 hne)
  · cases h
theorem Kr.cancel {now:Int} {r:Rn} (h:(cancelS now r).2=0):Kr r (cancelS now r).1:=by
  unfold cancelS cancelQ at h ⊢
  split at h
  · cases h
  · rename_i hne; rw [if_neg hne]; exact (Kr.settle now r).trans (.can _ 3)
theorem lease_tried {now token:Int} {r:Rn} (hr:r.states.length=r.dag.tasks.length) (h:(leaseS now token r).2.2=0) :
    ∃ i,∃ hi:i < r.states.length,(leaseS now token r).2.1=(i:Int)∧r.states[i].is≠3∧(leaseS now token r).1.key=r.key∧(leaseS now token r).1.states.length=r.states.length ∧
      ∀ j (h1:j < r.states.length) (h2:j < (leaseS now token r).1.states.length),(leaseS now token r).1.states[j].tried=r.states[j].tried+(if j=i then 1 else 0) ∧
        (r.states[j].is=3→(leaseS now token r).1.states[j].is=3∧(leaseS now token r).1.states[j].result=r.states[j].result):=by
  have hs:=Kr.settle now r
  have hd:=(settleS_shp now r).dag
  unfold leaseS leaseQ at h ⊢
  generalize settleS now r=q at h hs hd ⊢
  split at h
  · cases h
  split at h
  · cases h
  split at h
  · cases h
  rename_i h1 h2 h3
  rw [if_neg h1,if_neg h2,if_neg h3]
  split at h
  case h_2 => cases h
  rename_i i hi
  simp only [hi]
  obtain ⟨hg,hp,_⟩:=fndS_get hi
  have hlen:q.states.length=q.dag.tasks.length:=by rw [hd,← hr]; exact hs.len
  rw [leaseAt_get (by omega) hg]
  simp only [dueP,Bool.and_eq_true,decide_eq_true_eq] at hp
  have hi':i < r.states.length:=by rw [← hs.len]; exact hg
  have hl:(tleaseS (q.dag.tasks[i]'(by omega)) q.states[i] now token).1=⟨2,q.states[i].tried+1,untilS [now,(q.dag.tasks[i]'(by omega)).lease],token,q.states[i].result⟩:=by
    unfold tleaseS; rw [if_neg h1,if_neg (by omega)]
  rw [hl]
  refine ⟨i,hi',rfl,fun e => ?_,hs.key,by simp only [withS,List.length_set]; exact hs.len,fun j hj hj2 => ?_⟩
  · have:=((hs.each i hi' hg).done e).1; omega
  · have hk:=hs.each j hj (by rw [hs.len]; exact hj)
    simp only [withS,List.getElem_set]
    by_cases e:i=j
    · subst e
      simp only [if_true,hk.tried]
      refine ⟨trivial,fun e => ?_⟩
      have:=(hk.done e).1; omega
    · have e':¬ j=i:=fun h => e h.symm
      simp only [e,e',if_false,hk.tried,Int.add_zero,true_and]
      exact hk.done
/-! The tasks of a world,by their places. -/
def AtR (l:List Rn) (k:Str) (i:Nat) (s:Stt):Prop:=∃ r∈l,r.key=k∧r.states[i]?=some s
theorem runs_uniq {l:List Rn} (h:Rise (runsN l)) {a b:Nat} (ha:a < l.length) (hb:b < l.length) (e:l[a].key=l[b].key):a=b:=by
  have e1:=(lbR_at h ha).1
  have e2:=(lbR_at h hb).1
  rw [e,e2] at e1; exact e1.symm
theorem at_mem {l:List Rn} (h:Rise (runsN l)) {r:Rn} (hr:r∈l) {i:Nat} {s:Stt}:AtR l r.key i s↔r.states[i]?=some s:=by
  constructor
  · rintro ⟨r',hr',hk,hs⟩
    obtain ⟨a,ha,rfl⟩:=List.mem_iff_getElem.1 hr
    obtain ⟨b,hb,rfl⟩:=List.mem_iff_getElem.1 hr'
    have:=runs_uniq h hb ha hk; subst this; exact hs
  · intro hs; exact ⟨r,hr,rfl,hs⟩
theorem at_set {l:List Rn} (h:Rise (runsN l)) {j:Nat} (hj:j < l.length) {r:Rn} (hk:r.key=l[j].key) {k:Str} {i:Nat} {s:Stt} :
    AtR (l.set j r) k i s↔if k=r.key then r.states[i]?=some s else AtR l k i s:=by
  have hru:runsN (l.set j r)=runsN l:=by
    refine List.ext_getElem (by simp [runsN]) fun a h1 h2 => ?_
    simp only [runsN,List.getElem_map,List.getElem_set]
    split
    · rename_i e; subst e; exact hk
    · rfl
  split
  · rename_i e; subst e
    exact at_mem (by rw [hru]; exact h) (List.mem_set hj r)
  · rename_i e
    constructor
    · rintro ⟨r',hr',rfl,hs⟩
      rcases List.mem_or_eq_of_mem_set hr' with k | rfl
      · exact ⟨r',k,rfl,hs⟩
      · exact absurd rfl e
    · rintro ⟨r',hr',rfl,hs⟩
      obtain ⟨a,ha,rfl⟩:=List.mem_iff_getElem.1 hr'
      refine ⟨l[a],List.mem_iff_getElem.2 ⟨a,by simpa using ha, ?_⟩,rfl,hs⟩
      rw [List.getElem_set_ne]
      intro e2; subst e2; exact e hk.symm
structure Stp (w x:Wd) (q:Option (Str×Nat)):Prop where
  fwd:∀ k i s',AtR x.runs k i s'→(∃ s,AtR w.runs k i s∧s'.tried=s.tried+(if q=some (k,i) then 1 else 0))∨((∀ s,¬ AtR w.runs k i s)∧s'.tried=0∧q≠some (k,i))
  bwd:∀ k i s,AtR w.runs k i s→∃ s',AtR x.runs k i s'∧(s.is=3→s'.is=3∧s'.result=s.result)
  who:∀ k i,q=some (k,i)→∃ s,AtR w.runs k i s∧s.is≠3
theorem Stp.same {w x:Wd} (h:x.runs=w.runs):Stp w x none :=
  ⟨fun k i s' a => .inl ⟨s',h ▸ a,by simp⟩,fun k i s a => ⟨s,h.symm ▸ a,fun e => ⟨e,rfl⟩⟩,fun k i e => by cases e⟩
theorem Stp.set {w x:Wd} (h:WR w) {j:Nat} (hj:j < w.runs.length) {r:Rn} (hk:Kr w.runs[j] r) (hx:x.runs=w.runs.set j r):Stp w x none:=by
  have hm:=List.getElem_mem hj
  refine ⟨fun k i s' a => .inl ?_,fun k i s a => ?_,fun k i e => by cases e⟩
  · rw [hx,at_set h.rruns hj hk.key] at a
    split at a
    · rename_i e; subst e
      obtain ⟨hi,e⟩:=List.getElem?_eq_some_iff.1 a
      have hi':i < w.runs[j].states.length:=by rw [← hk.len]; exact hi
      have:=hk.each i hi' hi
      refine ⟨w.runs[j].states[i], ?_,by rw [← e,this.tried]; simp⟩
      rw [hk.key]; exact (at_mem h.rruns hm).2 (List.getElem?_eq_getElem hi')
    · exact ⟨s',a,by simp⟩
  · by_cases e:k=w.runs[j].key
    · subst e
      have a':=(at_mem h.rruns hm).1 a
      obtain ⟨hi,e⟩:=List.getElem?_eq_some_iff.1 a'
      have hi':i < r.states.length:=by rw [hk.len]; exact hi
      refine ⟨r.states[i], ?_, ?_⟩
      · rw [hx,at_set h.rruns hj hk.key,if_pos hk.key.symm]; exact List.getElem?_eq_getElem hi'
      · rw [← e]; exact (hk.each i hi hi').done
    · refine ⟨s, ?_,fun e => ⟨e,rfl⟩⟩
      rw [hx,at_set h.rruns hj hk.key,if_neg (fun e2 => e (e2.trans hk.key))]; exact a
theorem Stp.lease {w x:Wd} (h:WR w) {j:Nat} (hj:j < w.runs.length) {now token:Int} (hz:(leaseS now token w.runs[j]).2.2=0) (hx:x.runs=w.runs.set j (leaseS now token w.runs[j]).1) :
    ∃ i:Nat,(leaseS now token w.runs[j]).2.1=(i:Int)∧Stp w x (some (w.runs[j].key,i)):=by
  have hm:=List.getElem_mem hj
  obtain ⟨i0,hi0,e0,n3,hkey,hlen,hall⟩:=lease_tried (h.runs _ hm).2.len hz
  generalize (leaseS now token w.runs[j]).1=r at hx hkey hlen hall
  refine ⟨i0,e0,fun k i s' a => .inl ?_,fun k i s a => ?_,fun k i e => ?_⟩
  · rw [hx,at_set h.rruns hj hkey] at a
    split at a
    · rename_i e; subst e
      obtain ⟨hi,e⟩:=List.getElem?_eq_some_iff.1 a
      have hi':i < w.runs[j].states.length:=by rw [← hlen]; exact hi
      refine ⟨w.runs[j].states[i], ?_, ?_⟩
      · rw [hkey]; exact (at_mem h.rruns hm).2 (List.getElem?_eq_getElem hi')
      · rw [← e,(hall i hi' hi).1,hkey]
        congr 1
        by_cases c:i=i0
        · subst c; simp
        · rw [if_neg c,if_neg]; intro q; simp only [Option.some.injEq,Prod.mk.injEq] at q; exact c q.2.symm
    · rename_i e
      refine ⟨s',a, ?_⟩
      rw [if_neg,Int.add_zero]
      intro q; simp only [Option.some.injEq,Prod.mk.injEq] at q; exact e (q.1.symm.trans hkey.symm)
  · by_cases e:k=w.runs[j].key
    · subst e
      have a':=(at_mem h.rruns hm).1 a
      obtain ⟨hi,e⟩:=List.getElem?_eq_some_iff.1 a'
      have hi':i < r.states.length:=by rw [hlen]; exact hi
      refine ⟨r.states[i], ?_, ?_⟩
      · rw [hx,at_set h.rruns hj hkey,if_pos hkey.symm]; exact List.getElem?_eq_getElem hi'
      · rw [← e]; exact (hall i hi hi').2
    · refine ⟨s, ?_,fun e => ⟨e,rfl⟩⟩
      rw [hx,at_set h.rruns hj hkey,if_neg (fun e2 => e (e2.trans hkey))]; exact a
  · simp only [Option.some.injEq,Prod.mk.injEq] at e
    obtain ⟨rfl,rfl⟩:=e
    exact ⟨_,(at_mem h.rruns hm).2 (List.getElem?_eq_getElem hi0),n3⟩
theorem new_tried (key:Str) (d:Dag):∀ s∈(newS key d).states,s.tried=0:=fun s hs => by
  obtain ⟨i,hi,rfl⟩:=List.mem_iff_getElem.1 hs
  have hk:=Kr.mend (startS key d)
  have hi':i < (startS key d).states.length:=by rw [← hk.len]; exact hi
  have:=(hk.each i hi' hi).tried
  rw [show (newS key d).states[i].tried=(startS key d).states[i].tried from this]
  simp [startS,zS]
theorem Stp.put {w x:Wd} {key:Str} {d:Dag} (hn:key∉runsN w.runs) (hx:x.runs=putR w.runs (newS key d)):Stp w x none:=by
  have hk:(newS key d).key=key:=(Kr.mend (startS key d)).key
  have hmem:∀ r,r∈x.runs↔r=newS key d∨r∈w.runs:=fun r => by
    rw [hx]; unfold putR
    rw [hk,if_neg hn,Nat.add_zero,List.mem_append,List.mem_cons]
    conv => rhs; rhs; rw [← List.take_append_drop (lbR key w.runs) w.runs,List.mem_append]
    exact ⟨fun h => by rcases h with h | h | h<;>simp [h],fun h => by rcases h with h | h | h<;>simp [h]⟩
  refine ⟨fun k i s' a => ?_,fun k i s a => ?_,fun k i e => by cases e⟩
  · obtain ⟨r,hr,rfl,hs⟩:=a
    rcases (hmem r).1 hr with rfl | hr
    · refine .inr ⟨fun s a => ?_,new_tried key d s' (List.mem_of_getElem? hs),by simp⟩
      obtain ⟨r',hr',e,_⟩:=a
      rw [hk] at e; exact hn (e ▸ List.mem_map.2 ⟨r',hr',rfl⟩)
    · exact .inl ⟨s',⟨r,hr,rfl,hs⟩,by simp⟩
  · obtain ⟨r,hr,rfl,hs⟩:=a
    exact ⟨s,⟨r,(hmem r).2 (.inr hr),rfl,hs⟩,fun e => ⟨e,rfl⟩⟩
def r13:List RV:=[.c 2 (some 4)]
def c3:C :=
  (.seq
 (.reg false [p (.box 4 (.v 0)),
 p (.box 8 (.v 1)),
 p (.mov (.k (.bool false)))] [(2,.r 2),(3,.r 1)])
 (.seq
 (.reg false [p (.load (some 4) (.v 2)),
 p (.call true (.k (.fn 13 [] [])) [.r 0]),
 p (.store (some 4) (.v 2) (.r 0))] [(2,.v 2),(3,.v 3)])
 (.seq
 (.reg false [p (.load (some 4) (.v 2)),
 p (.load (some 8) (.v 3)),
 p (.call true (.k (.fn 14 [] [])) [.r 1,.r 0]),
 p (.mov (.r 0)),
 p (.ext (.r 0) 0),
 p (.ext (.r 1) 1),
 p (.alloc 4 (.agg [.int .i64 0,.int .i64 0,.fsl .nil 2 [],.fsl .nil 5 []])),
 p (.alloc 6 (.agg [.int .i64 0,.str [],.int .i64 0,.int .i64 0,.int .i64 0,.fsl .nil 5 []])),
 p (.store (some 4) (.r 1) (.r 3)),
 p (.store (some 6) (.r 1) (.r 3))] [(2,.v 2),(3,.v 3),(5,.r 3),(6,.r 2)])
 (.seq
 (.reg false [p (.load (some 4) (.v 2)),
 p (.load (some 8) (.v 3)),
 p (.call true (.k (.fn 15 [] [])) [.r 1,.r 0]),
 p (.mov (.r 0)),
 p (.ext (.r 0) 0),
 p (.ext (.r 1) 1),
 p (.alloc 4 (.agg [.int .i64 0,.int .i64 0,.fsl .nil 2 [],.fsl .nil 5 []])),
 p (.alloc 6 (.agg [.int .i64 0,.str [],.int .i64 0,.int .i64 0,.int .i64 0,.fsl .nil 5 []])),
 p (.store (some 4) (.r 1) (.r 3)),
 p (.store (some 6) (.r 1) (.r 3))] [(2,.v 2),(5,.v 5),(6,.v 6),(7,.r 3),(8,.r 2)])
 (.seq
 (.reg true [p (.call true (.k (.fn 16 [] [])) []),
 p (.mov (.r 0)),
 ⟨.load (some 4) (.v 2),some (0,true),[]⟩,
 ⟨.call true (.k (.fn 17 [] [])) [.r 0],some (1,true),[]⟩,
 ⟨.load (some 4) (.v 2),some (2,true),[]⟩,
 ⟨.call true (.k (.fn 18 [] [])) [.r 0],some (3,true),[]⟩,
 ⟨.eqb false (.r 2) (.r 0),some (4,true),[]⟩,
 p (.pick (.r 5) (.r 0) (.k (.bool false))),
 p (.mov (.r 0)),
 ⟨.load (some 4) (.v 5),some (0,true),[]⟩,
 ⟨.load (some 4) (.v 7),some (1,true),[]⟩,
 ⟨.call true (.k (.fn 19 [] [])) [.r 1,.r 0],some (2,true),[]⟩,
 p (.pick (.r 3) (.r 0) (.k (.bool false))),
 p (.mov (.r 0)),
 ⟨.load (some 6) (.v 6),some (0,true),[]⟩,
 ⟨.load (some 6) (.v 8),some (1,true),[]⟩,
 ⟨.call true (.k (.fn 20 [] [])) [.r 1,.r 0],some (2,true),[]⟩,
 p (.pick (.r 3) (.r 0) (.k (.bool false))),
 p (.mov (.r 0))] [(4,.r 0)])
 .ret)))))
def r3:List RV:=[.t 4]
def c4:C :=
  (.seq
 (.reg false [p (.box 4 (.v 0)),
 p (.box 8 (.v 1)),
 p (.mov (.k (.bool false)))] [(2,.r 2),(3,.r 1)])
 (.seq
 (.reg false [p (.load (some 4) (.v 2)),
 p (.call true (.k (.fn 13 [] [])) [.r 0]),
 p (.store (some 4) (.v 2) (.r 0))] [(2,.v 2),(3,.v 3)])
 (.seq
 (.seq
 (.reg false [p (.load (some 4) (.v 2)),
 p (.call true (.k (.fn 18 [] [])) [.r 0]),
 p (.un .not (.r 0))] [(2,.v 2),(3,.v 3),(13,.r 0)])
 (.cond (.v 13)
 (.seq
 (.reg false [p (.call true (.k (.fn 16 [] [])) []),
 p (.mov (.r 0))] [(4,.r 0)])
 .ret)
 .skip))
 (.seq
 (.reg false [p (.load (some 4) (.v 2)),
 p (.load (some 8) (.v 3)),
 p (.call true (.k (.fn 14 [] [])) [.r 1,.r 0]),
 p (.mov (.r 0)),
 p (.ext (.r 0) 0),
 p (.ext (.r 1) 1),
 p (.alloc 4 (.agg [.int .i64 0,.int .i64 0,.fsl .nil 2 [],.fsl .nil 5 []])),
 p (.alloc 6 (.agg [.int .i64 0,.str [],.int .i64 0,.int .i64 0,.int .i64 0,.fsl .nil 5 []])),
 p (.store (some 4) (.r 1) (.r 3)),
 p (.store (some 6) (.r 1) (.r 3))] [(2,.v 2),(3,.v 3),(5,.r 3),(6,.r 2)])
 (.seq
 (.seq
 (.reg false [p (.load (some 4) (.v 5)),
 p (.call true (.k (.fn 18 [] [])) [.r 0]),
 p (.un .not (.r 0)),
 p (.mov (.r 0)),
 ⟨.fad 0 (.v 5),some (0,false),[]⟩,
 ⟨.load (none) (.r 0),some (1,false),[]⟩,
 ⟨.fad 0 (.v 2),some (2,false),[]⟩,
 ⟨.load (none) (.r 0),some (3,false),[]⟩,
 ⟨.bin .lss (.r 2) (.r 0),some (4,false),[]⟩,
 p (.pick (.r 5) (.k (.bool true)) (.r 0)),
 p (.mov (.r 0)),
 ⟨.fad 1 (.v 5),some (0,false),[]⟩,
 ⟨.load (none) (.r 0),some (1,false),[]⟩,
 ⟨.fad 1 (.v 2),some (2,false),[]⟩,
 ⟨.load (none) (.r 0),some (3,false),[]⟩,
 ⟨.bin .lss (.r 2) (.r 0),some (4,false),[]⟩,
 p (.pick (.r 5) (.k (.bool true)) (.r 0)),
 p (.mov (.r 0)),
 ⟨.fad 2 (.v 5),some (0,false),[]⟩,
 ⟨.load (none) (.r 0),some (1,false),[]⟩,
 ⟨.len false (.r 0),some (2,false),[]⟩,
 ⟨.fad 2 (.v 2),some (3,false),[]⟩,
 ⟨.load (none) (.r 0),some (4,false),[]⟩,
 ⟨.len false (.r 0),some (5,false),[]⟩,
 ⟨.bin .lss (.r 3) (.r 0),some (6,false),[]⟩,
 p (.pick (.r 7) (.k (.bool true)) (.r 0)),
 p (.mov (.r 0)),
 ⟨.fad 3 (.v 5),some (0,false),[]⟩,
 ⟨.load (none) (.r 0),some (1,false),[]⟩,
 ⟨.len false (.r 0),some (2,false),[]⟩,
 ⟨.fad 3 (.v 2),some (3,false),[]⟩,
 ⟨.load (none) (.r 0),some (4,false),[]⟩,
 ⟨.len false (.r 0),some (5,false),[]⟩,
 ⟨.bin .lss (.r 3) (.r 0),some (6,false),[]⟩,
 p (.pick (.r 7) (.k (.bool true)) (.r 0)),
 p (.mov (.r 0)),
 ⟨.fad 0 (.v 6),some (0,false),[]⟩,
 ⟨.load (none) (.r 0),some (1,false),[]⟩,
 ⟨.bin .neq (.r 0) (.k (.int .i64 0)),some (2,false),[]⟩,
 ⟨.mov (.r 0),some (3,false),[]⟩,
 ⟨.load (some 4) (.v 5),some (0,true),[]⟩,
 ⟨.load (some 4) (.v 2),some (1,true),[]⟩,
 ⟨.call true (.k (.fn 19 [] [])) [.r 1,.r 0],some (2,true),[]⟩,
 ⟨.un .not (.r 0),some (3,true),[]⟩,
 ⟨.pick (.r 4) (.r 0) (.k (.bool false)),some (8,false),[]⟩,
 p (.pick (.r 9) (.k (.bool true)) (.r 0))] [(3,.v 3),(5,.v 5),(6,.v 6),(66,.r 0)])
 (.cond (.v 66)
 (.seq
 (.reg false [p (.mov (.k (.bool false)))] [(4,.r 0)])
 .ret)
 .skip))
 (.seq
 (.seq
 (.reg false [p (.fad 0 (.v 3)),
 p (.load (none) (.r 0)),
 p (.bin .neq (.r 0) (.k (.int .i64 1))),
 p (.mov (.r 0)),
 ⟨.fad 0 (.v 3),some (0,true),[]⟩,
 ⟨.load (none) (.r 0),some (1,true),[]⟩,
 ⟨.bin .neq (.r 0) (.k (.int .i64 2)),some (2,true),[]⟩,
 p (.pick (.r 3) (.r 0) (.k (.bool false)))] [(3,.v 3),(5,.v 5),(6,.v 6),(74,.r 0)])
 (.cond (.v 74)
 (.seq
 (.reg false [p (.call true (.k (.fn 16 [] [])) []),
 p (.mov (.r 0))] [(4,.r 0)])
 .ret)
 .skip))
 (.seq
 (.reg false [p (.load (some 4) (.v 5)),
 p (.load (some 8) (.v 3)),
 p (.call true (.k (.fn 14 [] [])) [.r 1,.r 0]),
 p (.mov (.r 0)),
 p (.ext (.r 0) 0),
 p (.ext (.r 1) 1),
 p (.alloc 4 (.agg [.int .i64 0,.int .i64 0,.fsl .nil 2 [],.fsl .nil 5 []])),
 p (.alloc 6 (.agg [.int .i64 0,.str [],.int .i64 0,.int .i64 0,.int .i64 0,.fsl .nil 5 []])),
 p (.store (some 4) (.r 1) (.r 3)),
 p (.store (some 6) (.r 1) (.r 3))] [(5,.v 5),(6,.v 6),(7,.r 3),(8,.r 2)])
 (.seq
 (.reg false [p (.call true (.k (.fn 16 [] [])) []),
 p (.mov (.r 0)),
 ⟨.load (some 4) (.v 5),some (0,true),[]⟩,
 ⟨.load (some 4) (.v 7),some (1,true),[]⟩,
 ⟨.call true (.k (.fn 19 [] [])) [.r 1,.r 0],some (2,true),[]⟩,
 p (.pick (.r 3) (.r 0) (.k (.bool false))),
 p (.mov (.r 0)),
 ⟨.load (some 6) (.v 6),some (0,true),[]⟩,
 ⟨.load (some 6) (.v 8),some (1,true),[]⟩,
 ⟨.call true (.k (.fn 20 [] [])) [.r 1,.r 0],some (2,true),[]⟩,
 p (.pick (.r 3) (.r 0) (.k (.bool false))),
 p (.mov (.r 0))] [(4,.r 0)])
 .ret))))))))
def r4:List RV:=[.t 4]
def c6:C :=
  (.seq
 (.reg false [p (.box 4 (.v 0)),
 p (.mov (.k (.bool false)))] [(1,.v 1),(2,.v 2),(3,.v 3),(4,.r 1)])
 (.seq
 (.reg false [p (.load (some 4) (.v 4)),
 p (.call true (.k (.fn 13 [] [])) [.r 0]),
 p (.store (some 4) (.v 4) (.r 0))] [(1,.v 1),(2,.v 2),(3,.v 3),(4,.v 4)])
 (.seq
 (.seq
 (.reg false [p (.load (some 4) (.v 4)),
 p (.call true (.k (.fn 18 [] [])) [.r 0]),
 p (.un .not (.r 0))] [(1,.v 1),(2,.v 2),(3,.v 3),(4,.v 4),(19,.r 0)])
 (.cond (.v 19)
 (.seq
 (.reg false [p (.call true (.k (.fn 16 [] [])) []),
 p (.mov (.r 0))] [(8,.r 0)])
 .ret)
 .skip))
 (.seq
 (.reg false [p (.mov (.k (.fn 22 [] [])))] [(1,.v 1),(2,.v 2),(3,.v 3),(4,.v 4),(9,.r 0)])
 (.seq
 (.reg true [p (.mov (.v 9)),
 p (.mov (.v 9)),
 p (.load (some 4) (.v 4)),
 p (.mov (.v 1)),
 p (.call false (.r 2) [.r 1,.r 0]),
 p (.mov (.v 2)),
 p (.call false (.r 5) [.r 1,.r 0]),
 p (.mov (.v 9)),
 p (.mov (.v 9)),
 ⟨.load (some 4) (.v 4),none,[4,2]⟩,
 p (.mov (.v 2)),
 p (.call false (.r 2) [.r 1,.r 0]),
 p (.mov (.v 1)),
 p (.call false (.r 5) [.r 1,.r 0]),
 ⟨.alloc 4 (.agg [.int .i64 0,.int .i64 0,.fsl .nil 2 [],.fsl .nil 5 []]),none,[11,9,7,4,2,0]⟩,
 ⟨.alloc 4 (.agg [.int .i64 0,.int .i64 0,.fsl .nil 2 [],.fsl .nil 5 []]),none,[12,10,8,5,3,1,0]⟩,
 p (.store (some 4) (.r 1) (.r 9)),
 p (.store (some 4) (.r 1) (.r 3))] [(3,.v 3),(4,.v 4),(10,.r 3),(11,.r 2)])
 (.seq
 (.reg false [p (.load (some 4) (.v 10)),
 p (.alloc 4 (.agg [.int .i64 0,.int .i64 0,.fsl .nil 2 [],.fsl .nil 5 []])),
 p (.store (some 4) (.r 0) (.r 1))] [(3,.v 3),(4,.v 4),(10,.v 10),(11,.v 11),(12,.r 1)])
 (.seq
 (.seq
 (.reg false [p (.fad 0 (.v 10)),
 p (.load (none) (.r 0)),
 p (.build [.int .i64 0,.str [],.str [],.int .i64 0,.int .i64 0,.str [],.str [],.fsl .nil 4 []] [(0,1,.k (.int .i64 8)),(4,1,.r 0)]),
 p (.mov (.v 3)),
 p (.build [.int .i64 0,.str [],.str [],.int .i64 0,.int .i64 0,.str [],.str [],.fsl .nil 4 []] [(0,1,.k (.int .i64 9)),(1,1,.r 0)]),
 p (.build [.int .i64 0,.str [],.str [],.int .i64 0,.int .i64 0,.str [],.str [],.fsl .nil 4 []] [(0,1,.k (.int .i64 10))]),
 p (.build [.int .i64 0,.str [],.str [],.int .i64 0,.int .i64 0,.str [],.str [],.fsl .nil 4 []] [(0,1,.k (.int .i64 9))]),
 p (.bsl 8 [.r 4,.r 2,.r 1,.r 0]),
 p (.len false (.r 0)),
 p (.mov (.k (.int .i64 0)))] [(4,.v 4),(10,.v 10),(11,.v 11),(12,.v 12),(43,.r 2),(44,.r 1),(45,.r 0)])
 (.block 0
 (.loop
 (.seq
 (.reg false [p (.bin .lss (.v 45) (.v 44))] [(4,.v 4),(10,.v 10),(11,.v 11),(12,.v 12),(43,.v 43),(44,.v 44),(45,.v 45),(46,.r 0)])
 (.seq
 (.cond (.v 46)
 .skip
 (.exit 0))
 (.seq
 (.block 1
 (.seq
 (.reg false [p (.iad 8 (.v 43) (.v 45)),
 p (.load (some 8) (.r 0)),
 p (.alloc 8 (.agg [.int .i64 0,.str [],.str [],.int .i64 0,.int .i64 0,.str [],.str [],.fsl .nil 4 []])),
 p (.store (some 8) (.r 0) (.r 1))] [(4,.v 4),(10,.v 10),(11,.v 11),(12,.v 12),(14,.r 1),(43,.v 43),(44,.v 44),(45,.v 45)])
 (.reg false [p (.load (some 4) (.v 12)),
 p (.load (some 8) (.v 14)),
 p (.call true (.k (.fn 14 [] [])) [.r 1,.r 0]),
 p (.mov (.r 0)),
 p (.ext (.r 0) 0),
 p (.ext (.r 1) 1),
 p (.store (some 4) (.v 12) (.r 1))] [(4,.v 4),(10,.v 10),(11,.v 11),(12,.v 12),(43,.v 43),(44,.v 44),(45,.v 45)])))
 (.reg false [p (.bin .add (.v 45) (.k (.int .i64 1))),
 p (.mov (.r 0))] [(4,.v 4),(10,.v 10),(11,.v 11),(12,.v 12),(43,.v 43),(44,.v 44),(45,.r 0)])))))))
 (.frz
 (.seq
 (.reg false [p (.call true (.k (.fn 16 [] [])) []),
 p (.mov (.r 0)),
 ⟨.load (some 4) (.v 10),some (0,true),[]⟩,
 ⟨.load (some 4) (.v 11),some (1,true),[]⟩,
 ⟨.call true (.k (.fn 19 [] [])) [.r 1,.r 0],some (2,true),[]⟩,
 p (.pick (.r 3) (.r 0) (.k (.bool false))),
 p (.mov (.r 0)),
 ⟨.load (some 4) (.v 10),some (0,true),[]⟩,
 ⟨.load (some 4) (.v 12),some (1,true),[]⟩,
 ⟨.call true (.k (.fn 19 [] [])) [.r 1,.r 0],some (2,true),[]⟩,
 p (.pick (.r 3) (.r 0) (.k (.bool false))),
 p (.mov (.r 0)),
 ⟨.fad 0 (.v 10),some (0,true),[]⟩,
 ⟨.load (none) (.r 0),some (1,true),[]⟩,
 ⟨.fad 0 (.v 4),some (2,true),[]⟩,
 ⟨.load (none) (.r 0),some (3,true),[]⟩,
 ⟨.bin .geq (.r 2) (.r 0),some (4,true),[]⟩,
 p (.pick (.r 5) (.r 0) (.k (.bool false))),
 p (.mov (.r 0))] [(8,.r 0)])
 .ret)))))))))
def c7:C :=
  (.seq
 (.reg false [p (.mov (.k (.bool false)))] [(0,.v 0)])
 (.seq
 (.reg false [p (.mov (.v 0)),
 p (.call true (.k (.fn 21 [] [])) [.r 0]),
 p (.mov (.r 0))] [(0,.r 0)])
 (.seq
 (.reg false [p (.mov (.v 0)),
 p (.call true (.k (.fn 23 [] [])) [.r 0]),
 p (.mov (.r 0)),
 p (.ext (.r 0) 0),
 p (.ext (.r 1) 1),
 p (.alloc 4 (.agg [.int .i64 0,.int .i64 0,.fsl .nil 2 [],.fsl .nil 5 []])),
 p (.store (some 4) (.r 0) (.r 2)),
 p (.mov (.r 2))] [(0,.v 0),(3,.r 2),(4,.r 0)])
 (.seq
 (.reg false [p (.alloc 4 (.agg [.int .i64 0,.int .i64 0,.fsl .nil 2 [],.fsl .nil 5 []]))] [(0,.v 0),(3,.v 3),(4,.v 4),(5,.r 0)])
 (.seq
 (.reg false [p (.mov (.k (.fsl .nil 6 [])))] [(0,.v 0),(3,.v 3),(4,.v 4),(5,.v 5),(6,.r 0)])
 (.seq
 (.seq
 (.reg false [p (.mov (.v 0)),
 p (.len false (.r 0)),
 p (.mov (.k (.int .i64 0)))] [(3,.v 3),(4,.v 4),(5,.v 5),(6,.v 6),(18,.r 2),(19,.r 1),(20,.r 0)])
 (.block 0
 (.loop
 (.seq
 (.reg false [p (.bin .lss (.v 20) (.v 19))] [(3,.v 3),(4,.v 4),(5,.v 5),(6,.v 6),(18,.v 18),(19,.v 19),(20,.v 20),(21,.r 0)])
 (.seq
 (.cond (.v 21)
 .skip
 (.exit 0))
 (.seq
 (.block 1
 (.seq
 (.reg false [p (.iad 8 (.v 18) (.v 20)),
 p (.load (some 8) (.r 0)),
 p (.alloc 8 (.agg [.int .i64 0,.str [],.str [],.int .i64 0,.int .i64 0,.str [],.str [],.fsl .nil 4 []])),
 p (.store (some 8) (.r 0) (.r 1))] [(3,.v 3),(4,.v 4),(5,.v 5),(6,.v 6),(8,.r 1),(18,.v 18),(19,.v 19),(20,.v 20)])
 (.seq
 (.reg false [p (.load (some 4) (.v 5)),
 p (.load (some 8) (.v 8)),
 p (.call true (.k (.fn 15 [] [])) [.r 1,.r 0]),
 p (.mov (.r 0)),
 p (.ext (.r 0) 0),
 p (.ext (.r 1) 1),
 p (.alloc 4 (.agg [.int .i64 0,.int .i64 0,.fsl .nil 2 [],.fsl .nil 5 []])),
 p (.alloc 6 (.agg [.int .i64 0,.str [],.int .i64 0,.int .i64 0,.int .i64 0,.fsl .nil 5 []])),
 p (.store (some 4) (.r 1) (.r 3)),
 p (.store (some 6) (.r 1) (.r 3))] [(3,.v 3),(4,.v 4),(5,.v 5),(6,.v 6),(9,.r 3),(10,.r 2),(18,.v 18),(19,.v 19),(20,.v 20)])
 (.reg true [p (.load (some 4) (.v 9)),
 p (.mov (.v 6)),
 p (.load (some 6) (.v 10)),
 p (.bsl 6 [.r 0]),
 ⟨.app 6 72 (.r 2) (.r 0),none,[3]⟩,
 p (.store (some 4) (.v 5) (.r 4)),
 p (.mov (.r 1))] [(3,.v 3),(4,.v 4),(5,.v 5),(6,.r 0),(18,.v 18),(19,.v 19),(20,.v 20)]))))
 (.reg false [p (.bin .add (.v 20) (.k (.int .i64 1))),
 p (.mov (.r 0))] [(3,.v 3),(4,.v 4),(5,.v 5),(6,.v 6),(18,.v 18),(19,.v 19),(20,.r 0)])))))))
 (.frz
 (.seq
 (.reg false [p (.call true (.k (.fn 16 [] [])) []),
 p (.mov (.r 0)),
 ⟨.load (some 4) (.v 3),some (0,true),[]⟩,
 ⟨.load (some 4) (.v 5),some (1,true),[]⟩,
 ⟨.call true (.k (.fn 19 [] [])) [.r 1,.r 0],some (2,true),[]⟩,
 p (.pick (.r 3) (.r 0) (.k (.bool false))),
 p (.mov (.r 0)),
 ⟨.mov (.v 4),some (0,true),[]⟩,
 ⟨.mov (.v 6),some (1,true),[]⟩,
 ⟨.call true (.k (.fn 24 [] [])) [.r 1,.r 0],some (2,true),[]⟩,
 p (.pick (.r 3) (.r 0) (.k (.bool false))),
 p (.mov (.r 0))] [(2,.r 0)])
 .ret))))))))
structure WdA (w:Wd):Prop where
  dags:w.dags.length≤4611686018427387904
  runs:w.runs.length≤4611686018427387904
  dag:∀ d∈w.dags,okDagL d
  run:∀ r∈w.runs,RnOk r
def zW:Wd:=⟨0,0,[],[]⟩
def bigD (d:Dag):Bool:=decide (20 < d.tasks.length)
def bigR (r:Rn):Bool:=decide (20 < r.states.length) || decide (20 < r.dag.tasks.length)
def cutW (w:Wd):Wd:={ w with dags:=w.dags.take 20,runs:=w.runs.take 70 }
def fewS (w:Wd):Wd:=if (cutW w).dags.any bigD=true then zW else if (cutW w).runs.any bigR=true then zW else cutW w
theorem zW_M:WdM zW:=⟨⟨by simp [zW],by simp [zW],by simp [zW],by simp [zW]⟩,by simp [zW]⟩
theorem few_M {w:Wd} (h:WdA w):WdM (fewS w):=by
  unfold fewS
  split
  · exact zW_M
  split
  · exact zW_M
  · rename_i h1 h2
    simp only [Bool.not_eq_true,List.any_eq_false] at h1 h2
    refine ⟨⟨by simp [cutW]; omega,by simp [cutW]; omega,fun d hd => h.dag d (List.mem_of_mem_take hd),fun r hr => h.run r (List.mem_of_mem_take hr)⟩,fun r hr => ?_⟩
    have h3:=h2 r hr
    have h4:=h.run r (List.mem_of_mem_take hr)
    simp [bigR] at h3
    exact ⟨⟨h4.tasks,h4.needs⟩,by omega⟩
abbrev z4V:V:=V.agg [V.int .i64 0,V.int .i64 0,V.fsl .nil 2 [],V.fsl .nil 5 []]
abbrev z6V:V:=V.agg [V.int .i64 0,V.str [],V.int .i64 0,V.int .i64 0,V.int .i64 0,V.fsl .nil 5 []]
theorem setC_z4 (b:Wd):setC (some 4) 0 z4V (wdV b)=some (wdV b):=rfl
theorem setC_z6 (b:Ans):setC (some 6) 0 z6V (ansV b)=some (ansV b):=rfl
theorem getC_cmd (b:Cmd):getC (some 8) 0 (cmdV b)=some (cmdV b):=rfl
theorem reach_le:reachBytes≤4611686018427387904:=by decide
def yDag:Ty:=.st (fDag .nil)
def yDags:Ty:=.l 2 40 yDag
def yRn:Ty:=.st (.cons .s (.cons yDag (.cons yI (.cons ySts .nil))))
def yRns:Ty:=.l 5 88 yRn
def tWd:Ty:=.st (.cons yI (.cons yI (.cons yDags (.cons yRns .nil))))
def tCmd:Ty:=.st (.cons yI (.cons .s (.cons .s (.cons yI (.cons yI (.cons .s (.cons yDag .nil)))))))
theorem dag_ok0 {d:Dag} (h:okDag d):okDagL d:=by
  have hr:=reach_le
  obtain ⟨g1,g2,g3⟩:=h
  exact ⟨by omega,fun t ht => by obtain ⟨_,z2,_⟩:=g3 t ht; omega⟩
theorem yDag_of {us:List V} (h:TyV yDag us):∃ d,el yDag us=dagV d∧okDag d:=by
  obtain ⟨d,ws,rfl,q,hw⟩:=fDag_of (r:=.nil) h
  obtain rfl:ws=[]:=hw
  exact ⟨d,rfl,q⟩
theorem yRn_of {us:List V} (h:TyV yRn us):∃ r,el yRn us=rnV r∧RnOk r:=by
  obtain ⟨u1,w1,rfl,h1,u2,w2,rfl,h2,u3,w3,rfl,h3,u4,w4,rfl,h4,rfl⟩:=h
  obtain ⟨k,rfl,qk⟩:=yS_of h1
  obtain ⟨d,ws,rfl,qd,hw⟩:=fDag_of (r:=.nil) h2
  obtain rfl:ws=[]:=hw
  obtain ⟨i,rfl,qi⟩:=yI_of h3
  obtain ⟨l,rfl,q1,q2⟩:=ySts_of h4
  have hr:=reach_le
  have hd:=dag_ok0 qd
  refine ⟨⟨k,d,i,l⟩,rfl,⟨Nat.le_trans qk hr,hd.2,hd.1,by simp only; omega,fun s hs => ?_⟩⟩
  obtain ⟨z1,z2,z3,z4,z5⟩:=q2 s hs
  exact Nat.le_trans z5 hr
theorem wd_of {vs:List V} (h:TyV tWd vs):∃ w:Wd,vs=[.int .i64 w.now,.int .i64 w.token,.fsl .loose 2 (mv dagV w.dags),.fsl .loose 5 (mv rnV w.runs)]∧WdA w:=by
  obtain ⟨u1,w1,rfl,h1,u2,w2,rfl,h2,u3,w3,rfl,h3,u4,w4,rfl,h4,rfl⟩:=h
  obtain ⟨a,rfl,qa⟩:=yI_of h1
  obtain ⟨b,rfl,qb⟩:=yI_of h2
  obtain ⟨ds,rfl,q1,q2⟩:=list_of (e:=yDag) (f:=dagV) (q:=okDag) (fun us hu => yDag_of hu) h3
  obtain ⟨rs,rfl,q3,q4⟩:=list_of (e:=yRn) (f:=rnV) (q:=RnOk) (fun us hu => yRn_of hu) h4
  have hr:=reach_le
  exact ⟨⟨a,b,ds,rs⟩,rfl,by simp only; omega,by simp only; omega,fun d hd => dag_ok0 (q2 d hd),q4⟩
theorem cmd_of {vs:List V} (h:TyV tCmd vs):∃ c:Cmd,vs=[.int .i64 c.kind,.str c.key,.str c.name,.int .i64 c.token,.int .i64 c.time,.str c.text,.str c.dag.name,tasksV c.dag.tasks]∧okDagL c.dag:=by
  obtain ⟨u1,w1,rfl,h1,u2,w2,rfl,h2,u3,w3,rfl,h3,u4,w4,rfl,h4,u5,w5,rfl,h5,u6,w6,rfl,h6,u7,w7,rfl,h7,rfl⟩:=h
  obtain ⟨a,rfl,qa⟩:=yI_of h1
  obtain ⟨b,rfl,qb⟩:=yS_of h2
  obtain ⟨c,rfl,qc⟩:=yS_of h3
  obtain ⟨d,rfl,qd⟩:=yI_of h4
  obtain ⟨e,rfl,qe⟩:=yI_of h5
  obtain ⟨f,rfl,qf⟩:=yS_of h6
  obtain ⟨g,ws,rfl,q,hw⟩:=fDag_of (r:=.nil) h7
  obtain rfl:ws=[]:=hw
  exact ⟨⟨a,b,c,d,e,f,g⟩,rfl,dag_ok0 q⟩
def Grow (w w':Wd):Prop:=w.now≤w'.now∧w.token≤w'.token∧w.dags.length≤w'.dags.length∧w.runs.length≤w'.runs.length
theorem Grow.refl (w:Wd):Grow w w:=⟨Int.le_refl _,Int.le_refl _,Nat.le_refl _,Nat.le_refl _⟩
theorem kind_grow (w:Wd) (c:Cmd) (h:WR w):Grow w (kindW w c).1:=by
  have htold:∀ f:Task→Stt→Stt×Int,Grow w (toldW w f c.token).1:=fun f => by
    unfold toldW; repeat' split
    all_goals first | exact .refl w | exact ⟨Int.le_refl _,Int.le_refl _,Nat.le_refl _,by simp⟩
  unfold kindW
  by_cases k1:c.kind=1
  · rw [if_pos k1]; unfold graphS; repeat' split
    all_goals first | exact .refl w | skip
    refine ⟨Int.le_refl _,Int.le_refl _, ?_,Nat.le_refl _⟩
    simp only [putD,List.length_append,List.length_take,List.length_cons,List.length_drop]; omega
  rw [if_neg k1]; by_cases k2:c.kind=2
  · rw [if_pos k2]; unfold beginS; repeat' split
    all_goals first | exact .refl w | skip
    rename_i hk1 hin hk3 hk4
    refine ⟨Int.le_refl _,Int.le_refl _,Nat.le_refl _, ?_⟩
    simp only [putR,new_key,if_neg hk3,List.length_append,List.length_take,List.length_cons,List.length_drop]; omega
  rw [if_neg k2]; by_cases k3:c.kind=3
  · rw [if_pos k3]; unfold pollS; repeat' split
    all_goals first | exact .refl w | skip
    exact ⟨Int.le_refl _,by simp only; omega,Nat.le_refl _,by simp⟩
  rw [if_neg k3]; by_cases k4:c.kind=4
  · rw [if_pos k4]; exact htold _
  rw [if_neg k4]; by_cases k5:c.kind=5
  · rw [if_pos k5]; exact htold _
  rw [if_neg k5]; by_cases k6:c.kind=6
  · rw [if_pos k6]; exact htold _
  rw [if_neg k6]; by_cases k7:c.kind=7
  · rw [if_pos k7]; unfold cancelW; repeat' split
    all_goals first | exact .refl w | exact ⟨Int.le_refl _,Int.le_refl _,Nat.le_refl _,by simp⟩
  rw [if_neg k7]; by_cases k8:c.kind=8
  · rw [if_pos k8]; unfold tickW; repeat' split
    all_goals first | exact .refl w | skip
    exact ⟨by simp only; omega,Int.le_refl _,Nat.le_refl _,Nat.le_refl _⟩
  rw [if_neg k8]; by_cases k9:c.kind=9
  · rw [if_pos k9]; unfold stateW; repeat' split
    all_goals exact .refl w
  rw [if_neg k9]; split<;>exact .refl w
theorem twice (w:Wd) (c:Cmd) (h:WR w) (hk:c.kind=1∨c.kind=2):kindW (kindW w c).1 c=kindW w c:=by
  have hR:=keeps w c h
  rcases hk with k1 | k2
  · have e:∀ x,kindW x c=graphS x c.dag:=fun x => by unfold kindW; rw [if_pos k1]
    rw [e] at hR
    rw [e,e]
    by_cases c1:dagRightS c.dag≠0
    · have e1:∀ x,graphS x c.dag=(x,whyA (dagRightS c.dag)):=fun x => by unfold graphS; rw [if_pos c1]
      rw [e1,e1]
    by_cases c2:c.dag.name∈dagsN w.dags
    · by_cases c3:c.dag∈w.dags
      · have e1:graphS w c.dag=(w,whyA 0):=by unfold graphS; rw [if_neg c1,if_pos c2,if_pos c3]
        rw [e1]; exact e1
      · have e1:graphS w c.dag=(w,whyA 161):=by unfold graphS; rw [if_neg c1,if_pos c2,if_neg c3]
        rw [e1]; exact e1
    by_cases c4:16≤w.dags.length
    · have e1:graphS w c.dag=(w,whyA 2):=by unfold graphS; rw [if_neg c1,if_neg c2,if_pos c4]
      rw [e1]; exact e1
    have e1:graphS w c.dag=({ w with dags:=putD w.dags c.dag },whyA 0):=by unfold graphS; rw [if_neg c1,if_neg c2,if_neg c4]
    rw [e1]
    have hm:c.dag∈putD w.dags c.dag:=by unfold putD; simp
    show graphS { w with dags:=putD w.dags c.dag } c.dag=_
    unfold graphS
    rw [if_neg c1,if_pos (show c.dag.name∈dagsN (putD w.dags c.dag) from List.mem_map.2 ⟨_,hm,rfl⟩),if_pos hm]
  · have e:∀ x,kindW x c=beginS x c.key c.name:=fun x => by unfold kindW; rw [if_neg (by omega),if_pos k2]
    rw [e] at hR
    rw [e,e]
    by_cases c1:c.key.length < 1∨16 < c.key.length
    · have e1:beginS w c.key c.name=(w,whyA 1):=by unfold beginS; rw [if_pos c1]
      rw [e1]; exact e1
    by_cases c2:c.name∉dagsN w.dags
    · have e1:beginS w c.key c.name=(w,whyA 161):=by unfold beginS; rw [if_neg c1,if_pos c2]
      rw [e1]; exact e1
    by_cases c3:c.key∈runsN w.runs
    · by_cases c4:(w.runs.getD (lbR c.key w.runs) zR).dag.name≠c.name
      · have e1:beginS w c.key c.name=(w,whyA 190):=by unfold beginS; rw [if_neg c1,if_neg c2,if_pos c3,if_pos c4]
        rw [e1]; exact e1
      · have e1:beginS w c.key c.name=(w,whyA 0):=by unfold beginS; rw [if_neg c1,if_neg c2,if_pos c3,if_neg c4]
        rw [e1]; exact e1
    by_cases c4:64≤w.runs.length
    · have e1:beginS w c.key c.name=(w,whyA 2):=by unfold beginS; rw [if_neg c1,if_neg c2,if_neg c3,if_pos c4]
      rw [e1]; exact e1
    have e1:beginS w c.key c.name=({ w with runs:=putR w.runs (newS c.key (w.dags.getD (lbD c.name w.dags) zD)) },whyA 0):=by unfold beginS; rw [if_neg c1,if_neg c2,if_neg c3,if_neg c4]
    rw [e1] at hR
    rw [e1]
    obtain ⟨hi,hnm⟩:=lbD_get h.rdags (Classical.not_not.1 c2)
    rw [getD_get hi] at hR ⊢
    have hnk:=new_key c.key w.dags[lbD c.name w.dags]
    have hnd:(newS c.key w.dags[lbD c.name w.dags]).dag=w.dags[lbD c.name w.dags]:=(mendS_shp _).dag
    generalize newS c.key w.dags[lbD c.name w.dags]=nr at hnk hnd hR ⊢
    have hm:nr∈putR w.runs nr:=by unfold putR; simp
    obtain ⟨i,hil,hie⟩:=List.mem_iff_getElem.1 hm
    obtain ⟨g1,g2⟩:=lbR_at (l:=putR w.runs nr) hR.rruns hil
    rw [hie,hnk] at g1 g2
    show beginS { w with runs:=putR w.runs nr } c.key c.name=_
    unfold beginS
    rw [if_neg c1,if_neg c2,if_pos g2]
    simp only [g1,getD_get hil,hie,hnd,hnm,ne_eq,not_true_eq_false,if_false]
def Nd (s s':Stt):Prop:=s'=s∨s'.is≠3
theorem Nd.refl (s:Stt):Nd s s:=.inl rfl
theorem Nd.trans {a b c:Stt} (h:Nd a b) (k:Nd b c):Nd a c:=by
  rcases k with rfl | k
  · exact h
  · exact .inr k
theorem Nd.cancel (s:Stt):Nd s (tcancelS s):=by
  unfold tcancelS; split
  · exact .inr (show (5:Int)≠3 by decide)
  · exact .refl s
theorem Nd.ready (s:Stt):Nd s (treadyS s):=by
  unfold treadyS; split
  · exact .inr (show (1:Int)≠3 by decide)
  · exact .refl s
theorem Nd.fail (t:Task) (s:Stt) (now:Int):Nd s (tfailS t s now).1:=by
  unfold tfailS
  split
  · exact .inr (show (0:Int)≠3 by decide)
  · split
    · exact .inr (show (4:Int)≠3 by decide)
    · exact .inr (show (1:Int)≠3 by decide)
theorem Nd.expire (t:Task) (s:Stt) (now:Int):Nd s (texpireS t s now):=by
  unfold texpireS; split
  · exact .refl s
  · exact .fail t s _
structure N0 (r r':Rn):Prop where
  key:r'.key=r.key
  len:r'.states.length=r.states.length
  each:∀ i (h:i < r.states.length) (h':i < r'.states.length),Nd r.states[i] r'.states[i]
structure Nk (k:Nat) (r r':Rn):Prop where
  key:r'.key=r.key
  len:r'.states.length=r.states.length
  each:∀ i (h:i < r.states.length) (h':i < r'.states.length),i≠k→Nd r.states[i] r'.states[i]
theorem N0.k {r r':Rn} (h:N0 r r') (k:Nat):Nk k r r':=⟨h.key,h.len,fun i a b _ => h.each i a b⟩
theorem Nk.trans {k:Nat} {a b c:Rn} (h:Nk k a b) (g:Nk k b c):Nk k a c :=
  ⟨g.key.trans h.key,g.len.trans h.len,fun i h1 h2 n => (h.each i h1 (by rw [h.len]; exact h1) n).trans (g.each i _ h2 n)⟩
theorem N0.refl (r:Rn):N0 r r:=⟨rfl,rfl,fun _ _ _ => .refl _⟩
theorem N0.trans {a b c:Rn} (h:N0 a b) (k:N0 b c):N0 a c :=
  ⟨k.key.trans h.key,k.len.trans h.len,fun i h1 h2 => (h.each i h1 (by rw [h.len]; exact h1)).trans (k.each i _ h2)⟩
theorem Nk.set (r:Rn) (i:Nat) (s:Stt):Nk i r (withS r i s) :=
  ⟨rfl,by simp [withS],fun j h1 h2 n => by
    simp only [withS,List.getElem_set]
    rw [if_neg (fun e => n e.symm)]; exact .refl _⟩
theorem N0.set {r:Rn} {i:Nat} (hi:i < r.states.length) {s:Stt} (h:Nd r.states[i] s):N0 r (withS r i s):=by
  refine ⟨rfl,by simp [withS],fun j h1 h2 => ?_⟩
  simp only [withS,List.getElem_set]
  split
  · rename_i e; subst e; exact h
  · exact .refl _
theorem N0.can (r:Rn) (x:Int):N0 r { r with is:=x,states:=canL r.states r.states.length } :=
  ⟨rfl,canL_len _ _,fun j h1 h2 => by simp only [canL_all']; exact .cancel _⟩
theorem N0.mend (r:Rn):N0 r (mendS r):=by
  unfold mendS; split
  · exact .can r 2
  · refine ⟨rfl,mendL_len _ _ _,fun j h1 h2 => ?_⟩
    simp only [mendL_all']
    split
    · exact .ready _
    · exact .refl _
theorem N0.one (now:Int) (r:Rn):N0 r (oneS now r):=by
  unfold oneS; split
  · exact .refl r
  split
  · rename_i t s h1 h2
    obtain ⟨hi,e⟩:=List.getElem?_eq_some_iff.1 h2
    exact (N0.set hi (e ▸ .expire t _ now)).trans (.mend _)
  · exact .refl r
theorem N0.rnd (now:Int) (r:Rn):∀ k,N0 r (rndS now r k)
  | 0 => .refl r
  | k+1 => (N0.rnd now r k).trans (.one now _)
theorem N0.settle (now:Int) (r:Rn):N0 r (settleS now r):=N0.rnd now r _
theorem Nk.told {now token:Int} {f:Task→Stt→Stt×Int} {r:Rn} (h:(toldS now f token r).2=0):∃ k,Nk k r (toldS now f token r).1:=by
  unfold toldS toldQ at h ⊢
  have hs:=N0.settle now r
  generalize settleS now r=q at h hs ⊢
  split at h
  · cases h
  rename_i i hi
  try simp only [hi]
  split at h
  · rename_i t s h1 h2
    split at h
    · rename_i hne; exact absurd h hne
    · rename_i hne
      try simp only [h1,h2]
      rw [if_neg hne]
      exact ⟨i,(hs.k i).trans ((Nk.set q i _).trans ((N0.mend _).k i))⟩
  · cases h
theorem N0.cancel {now:Int} {r:Rn} (h:(cancelS now r).2=0):N0 r (cancelS now r).1:=by
  unfold cancelS cancelQ at h ⊢
  split at h
  · cases h
  · rename_i hne; rw [if_neg hne]; exact (N0.settle now r).trans (.can _ 3)
theorem N0.lease {now token:Int} {r:Rn} (hr:r.states.length=r.dag.tasks.length) (h:(leaseS now token r).2.2=0):N0 r (leaseS now token r).1:=by
  have hs:=N0.settle now r
  have hd:=(settleS_shp now r).dag
  unfold leaseS leaseQ at h ⊢
  generalize settleS now r=q at h hs hd ⊢
  split at h
  · cases h
  split at h
  · cases h
  split at h
  · cases h
  rename_i h1 h2 h3
  rw [if_neg h1,if_neg h2,if_neg h3]
  split at h
  case h_2 => cases h
  rename_i i hi
  simp only [hi]
  obtain ⟨hg,hp,_⟩:=fndS_get hi
  have hlen:q.states.length=q.dag.tasks.length:=by rw [hd,← hr]; exact hs.len
  rw [leaseAt_get (by omega) hg]
  simp only [dueP,Bool.and_eq_true,decide_eq_true_eq] at hp
  have hl:(tleaseS (q.dag.tasks[i]'(by omega)) q.states[i] now token).1=⟨2,q.states[i].tried+1,untilS [now,(q.dag.tasks[i]'(by omega)).lease],token,q.states[i].result⟩:=by
    unfold tleaseS; rw [if_neg h1,if_neg (by omega)]
  rw [hl]
  exact hs.trans (N0.set hg (.inr (show (2:Int)≠3 by decide)))
theorem new_nd (key:Str) (d:Dag):∀ s∈(newS key d).states,s.is≠3:=fun s hs => by
  obtain ⟨i,hi,rfl⟩:=List.mem_iff_getElem.1 hs
  have hk:=N0.mend (startS key d)
  have hi':i < (startS key d).states.length:=by rw [← hk.len]; exact hi
  have e:Nd (startS key d).states[i] (newS key d).states[i]:=hk.each i hi' hi
  rcases e with e | e
  · rw [e]; simp [startS,zS]
  · exact e
inductive Fit (w x:Wd):Prop
  | same (h1:x.runs=w.runs) (h2:x.dags=w.dags)
  | graph (d:Dag) (h:x={ w with dags:=putD w.dags d })
  | set (j:Nat) (hj:j < w.runs.length) (r:Rn) (k:Nat) (h1:x.dags=w.dags) (h2:x.runs=w.runs.set j r) (h3:Nk k w.runs[j] r)
  | put (r:Rn) (h1:x.dags=w.dags) (h2:x.runs=putR w.runs r) (h3:r.key∉runsN w.runs) (h4:∀ s∈r.states,s.is≠3)
theorem kind_fit (w:Wd) (c:Cmd) (h:WR w):Fit w (kindW w c).1:=by
  have htold:∀ f:Task→Stt→Stt×Int,Fit w (toldW w f c.token).1:=fun f => by
    unfold toldW
    split
    · exact .same rfl rfl
    · rename_i i hi
      obtain ⟨hg,_,_⟩:=fndS_get hi
      rw [getD_get hg]
      split
      · exact .same rfl rfl
      · rename_i hz
        obtain ⟨k,hk⟩:=Nk.told (Classical.not_not.1 hz)
        exact .set i hg _ k rfl rfl hk
  unfold kindW
  by_cases k1:c.kind=1
  · rw [if_pos k1]
    unfold graphS; repeat' split
    all_goals first | exact .same rfl rfl | exact .graph _ rfl
  rw [if_neg k1]; by_cases k2:c.kind=2
  · rw [if_pos k2]
    unfold beginS; repeat' split
    all_goals first | exact .same rfl rfl | skip
    rename_i hk1 hin hk3 hk4
    refine .put _ rfl rfl ?_ (new_nd _ _)
    rw [show (newS c.key (w.dags.getD (lbD c.name w.dags) zD)).key=c.key from (N0.mend (startS _ _)).key]
    exact hk3
  rw [if_neg k2]; by_cases k3:c.kind=3
  · rw [if_pos k3]; unfold pollS; split
    · exact .same rfl rfl
    rename_i htok
    split
    · exact .same rfl rfl
    · rename_i i hi
      obtain ⟨hg,hp,_⟩:=fndS_get hi
      rw [getD_get hg]
      have hz:(leaseS w.now (w.token+1) w.runs[i]).2.2=0:=by simpa [leaseP] using hp
      exact .set i hg _ 0 rfl rfl ((N0.lease (h.runs _ (List.getElem_mem hg)).2.len hz).k 0)
  rw [if_neg k3]
  by_cases k4:c.kind=4
  · rw [if_pos k4]; exact htold _
  rw [if_neg k4]; by_cases k5:c.kind=5
  · rw [if_pos k5]; exact htold _
  rw [if_neg k5]; by_cases k6:c.kind=6
  · rw [if_pos k6]; exact htold _
  rw [if_neg k6]; by_cases k7:c.kind=7
  · rw [if_pos k7]; unfold cancelW
    split
    · exact .same rfl rfl
    rename_i hk
    have hk':c.key∈runsN w.runs:=Classical.not_not.1 hk
    obtain ⟨hi,_⟩:=lbR_get h.rruns hk'
    rw [getD_get hi]
    split
    · exact .same rfl rfl
    · rename_i hz; exact .set _ hi _ 0 rfl rfl ((N0.cancel (Classical.not_not.1 hz)).k 0)
  rw [if_neg k7]; by_cases k8:c.kind=8
  · rw [if_pos k8]; unfold tickW; split<;>exact .same rfl rfl
  rw [if_neg k8]; by_cases k9:c.kind=9
  · rw [if_pos k9]; unfold stateW; split<;>exact .same rfl rfl
  rw [if_neg k9]; split<;>exact .same rfl rfl
abbrev Pr:=List UInt8×List UInt8
def prV (p:Pr):V:=.agg [.str p.1,.str p.2]
theorem prV_closed (p:Pr):(prV p).closed=true:=by simp [prV,V.closed,closedL]
theorem prV_lo (p:Pr):lo (prV p)=prV p:=by simp [prV,lo,loL]
def prsV (l:List Pr):V:=.fsl .loose 2 (mv prV l)
section
set_option maxRecDepth 100000
def ren_join:Go.Shelf.Ren:=⟨fun x => match x with | 156 => 136 | 165 => 180 | 166 => 181 | 169 => 182 | 240 => 225 | 241 => 226 | 276 => 238 | 277 => 239 | n => n,fun x => match x with | 31 => 179 | 9 => 9 | 3 => 3 | 4 => 4 | 0 => 0 | 20 => 20 | 72 => 214 | 76 => 218 | 70 => 212 | 37 => 140 | 75 => 217 | 127 => 250 | 164 => 258 | 5 => 5 | 80 => 146 | n => n,fun x => match x with | n => n⟩
theorem lays_join:Lays.n156 Tryz.prog ren_join where
  mixed:=by kernel_rfl
  f156:=Tryz.func136.trans (congrArg some (by kernel_rfl))
  f165:=Tryz.func180.trans (congrArg some (by kernel_rfl))
  f166:=Tryz.func181.trans (congrArg some (by kernel_rfl))
  f169:=Tryz.func182.trans (congrArg some (by kernel_rfl))
  f240:=Tryz.func225.trans (congrArg some (by kernel_rfl))
  f241:=Tryz.func226.trans (congrArg some (by kernel_rfl))
  f276:=Tryz.func238.trans (congrArg some (by kernel_rfl))
  f277:=Tryz.func239.trans (congrArg some (by kernel_rfl))
  t0:=Tryz.underlying0
  a0:=Tryz.isAgg0
  z0:=Tryz.sizeOf0
  v0:=Tryz.zeroValue0
  t3:=Tryz.underlying3
  a3:=Tryz.isAgg3
  z3:=Tryz.sizeOf3
  v3:=Tryz.zeroValue3
  t4:=Tryz.underlying4
  a4:=Tryz.isAgg4
  z4:=Tryz.sizeOf4
  v4:=Tryz.zeroValue4
  t9:=Tryz.underlying9
  a9:=Tryz.isAgg9
  z9:=Tryz.sizeOf9
  v9:=Tryz.zeroValue9
  t20:=Tryz.underlying20
  a20:=Tryz.isAgg20
  z20:=Tryz.sizeOf20
  v20:=Tryz.zeroValue20
  t31:=Tryz.underlying179
  a31:=Tryz.isAgg179
  z31:=Tryz.sizeOf179
  v31:=Tryz.zeroValue179
  t37:=Tryz.underlying140
  a37:=Tryz.isAgg140
  z37:=Tryz.sizeOf140
  v37:=Tryz.zeroValue140
  t70:=Tryz.underlying212
  a70:=Tryz.isAgg212
  z70:=Tryz.sizeOf212
  v70:=Tryz.zeroValue212
  t72:=Tryz.underlying214
  a72:=Tryz.isAgg214
  z72:=Tryz.sizeOf214
  v72:=Tryz.zeroValue214
  t75:=Tryz.underlying217
  a75:=Tryz.isAgg217
  z75:=Tryz.sizeOf217
  v75:=Tryz.zeroValue217
  t76:=Tryz.underlying218
  a76:=Tryz.isAgg218
  z76:=Tryz.sizeOf218
  v76:=Tryz.zeroValue218
  t127:=Tryz.underlying250
  a127:=Tryz.isAgg250
  z127:=Tryz.sizeOf250
  v127:=Tryz.zeroValue250
  t164:=Tryz.underlying258
  a164:=Tryz.isAgg258
  z164:=Tryz.sizeOf258
  v164:=Tryz.zeroValue258
theorem lays1_join:Builder.Extra Tryz.prog ren_join where
  sizeBuilder:=by kernel_rfl
  liesBuilder:=by kernel_rfl
  t5:=Tryz.underlying5
  a5:=Tryz.isAgg5
  z5:=Tryz.sizeOf5
  v5:=Tryz.zeroValue5
  infoByte:=by kernel_rfl
  cellsByte:=by kernel_rfl
  sizeByte:=by kernel_rfl
  neB5:=by decide
end
theorem code_join (st:St) (l:List Str) (sep:Str) (hN:l.length≤140737488355328) (hlen:(Lib.join l sep).length≤140737488355328):PCall Tryz.prog 136 [.fsl st 1 (vS l),.str sep] (.str (Lib.join l sep)) :=
  join_pcall (ρ:=ren_join) lays_join lays1_join ⟨_,Tryz.func136,by kernel_rfl,by kernel_rfl⟩ st l sep hN hlen
theorem flat_len:∀ {l:List Str} {N:Nat},(∀ s∈l,s.length≤N)→l.flatten.length≤l.length*N
  | [],_,_ => by simp
  | a::l,N,h => by
    have:=flat_len (l:=l) (N:=N) fun s hs => h s (by simp [hs])
    have:=h a (by simp)
    rw [List.flatten_cons,List.length_append,List.length_cons,Nat.add_mul]; omega
theorem code_all (st:St) (l:List Str) (hN:l.length≤1000) (hlen:∀ s∈l,s.length≤140737488355):PCall Tryz.prog 67 [.fsl st 1 (vS l)] (.str l.flatten):=by
  have hf:l.flatten.length≤140737488355328:=Nat.le_trans (flat_len hlen) (by have:=Nat.mul_le_mul_right 140737488355 hN; omega)
  refine en67 (by simp) (by simp [closedL,V.closed,vS_closed]) ?_
  simp (maxSteps:=1000000) (disch:=omega) only [rg,gD,simprocAttr,c67]
  refine ⟨_,code_join st l [] (by omega) (by rw [join_nil]; exact hf), ?_⟩
  rw [join_nil]
  simp (maxSteps:=1000000) (disch:=omega) only [rg,gD,simprocAttr]
  (refine fin_x rfl ?_ ?_<;>simp [pack,lo,loL,V.closed,closedL,mv_closed])
def u8V (l:List UInt8):List V:=mv (fun b:UInt8 => V.int .u8 b.toNat) l
theorem u8V_len (l:List UInt8):(u8V l).length=l.length:=mv_len
def beS:Nat→Nat→Str
  | 0,_ => []
  | k+1,n => beS k (n / 256)++[UInt8.ofNat (n % 256)]
theorem beS_len:∀ k n,(beS k n).length=k
  | 0,_ => rfl
  | k+1,n => by simp [beS,beS_len k]
theorem beS_get:∀ (k n j:Nat) (h:j < (beS k n).length),(beS k n)[j]=UInt8.ofNat (n / 256 ^ (k - 1 - j) % 256)
  | 0,_,j,h => by simp [beS] at h
  | k+1,n,j,h => by
    simp only [beS]
    rw [List.getElem_append]
    split
    · rename_i hj
      rw [beS_get k (n / 256) j hj]
      rw [beS_len] at hj
      rw [Nat.div_div_eq_div_mul,show k+1 - 1 - j=(k - 1 - j)+1 by omega,Nat.pow_succ,Nat.mul_comm]
    · rename_i hj
      have:(beS k (n / 256)).length=k:=beS_len _ _
      simp [beS_len] at h hj
      have:j=k:=by omega
      subst this
      simp [beS_len]
def putS (n size:Int):Str×Int:=if size < 1∨6 < size∨n < 0∨256 ^ size.toNat≤n then ([],1) else (beS size.toNat n.toNat,0)
def sV (p:Str×Int):V:=.tup [.str p.1,.int .i64 p.2]
theorem shr8 (n i:Nat) (hi:i≤6):(n:Int).fdiv (2 ^ min (8*(i:Int)).toNat 64)=((n / 256 ^ i:Nat):Int):=by
  have h:(2:Nat) ^ (8*i)=256 ^ i:=Nat.pow_mul 2 8 i
  rw [show min (8*(i:Int)).toNat 64=8*i by omega,Int.fdiv_eq_ediv_of_nonneg _ (Int.pow_nonneg (by omega)),← h]
  norm_cast
theorem wrap_u8 (m:Nat):IntKind.u8.wrap (m:Int)=((UInt8.ofNat (m % 256)).toNat:Int):=by
  simp [IntKind.wrap,IntKind.bits,IntKind.signed]
theorem code_put (n size:Int) (hn:n≤9223372036854775807):PCall Tryz.prog 85 [.int .i64 n,.int .i64 size] (sV (putS n size)):=by
  refine en85 (by simp) (by simp [closedL,V.closed]) ?_
  by_cases c1:size < 1
  · simp (maxSteps:=1000000) (disch:=omega) only [rg,gD,simprocAttr,c85,c1]
    (refine fin_x rfl ?_ ?_<;>simp [pack,lo,loL,V.closed,closedL,mv_closed,sV,putS,c1])
  by_cases c2:6 < size
  · simp (maxSteps:=1000000) (disch:=omega) only [rg,gD,simprocAttr,c85,c1,c2]
    (refine fin_x rfl ?_ ?_<;>simp [pack,lo,loL,V.closed,closedL,mv_closed,sV,putS,c2])
  by_cases c3:n < 0
  · simp (maxSteps:=1000000) (disch:=omega) only [rg,gD,simprocAttr,c85,c1,c2,c3]
    (refine fin_x rfl ?_ ?_<;>simp [pack,lo,loL,V.closed,closedL,mv_closed,sV,putS,c3])
  obtain ⟨k,rfl⟩:∃ k:Nat,size=k:=⟨size.toNat,by omega⟩
  obtain ⟨N,rfl⟩:∃ k:Nat,n=k:=⟨n.toNat,by omega⟩
  have e1:=shr8 N k (by omega)
  by_cases c4:256 ^ k≤N
  · have h0:¬ ((N / 256 ^ k:Nat):Int)=0:=by have:=Nat.div_pos c4 (Nat.pow_pos (by omega)); omega
    simp (maxSteps:=1000000) (disch:=omega) only [rg,gD,simprocAttr,c85,c1,c2,c3,IntKind.bits,e1,h0]
    refine ⟨by omega, ?_⟩
    have:(256:Int) ^ k≤N:=by exact_mod_cast c4
    (refine fin_x rfl ?_ ?_<;>simp [pack,lo,loL,V.closed,closedL,mv_closed,sV,putS,this])
  have h0:((N / 256 ^ k:Nat):Int)=0:=by rw [Nat.div_eq_of_lt (by omega)]; rfl
  have c5:¬ (256:Int) ^ k≤N:=by intro h; exact c4 (by exact_mod_cast h)
  have hput:putS N k=(beS k N,0):=by
    unfold putS; rw [if_neg (by simp only [Int.toNat_natCast]; omega)]; simp
  simp (maxSteps:=1000000) (disch:=omega) only [rg,gD,simprocAttr,c85,c1,c2,c3,IntKind.bits,e1,h0]
  refine ⟨by omega,by omega, ?_⟩
  let ct:Nat→List UInt8:=fun i => (List.range k).map fun j => if k≤i+j then UInt8.ofNat (N / 256 ^ (k - 1 - j) % 256) else 0
  refine x_it k (fun i σ H => H.n=1∧H.m 0=some (.arr 1 (u8V (ct i)))∧σ=[(0,.int .i64 N),(1,.int .i64 k),(6,.sl 0 0 k),(28,.int .i64 k),(29,.int .i64 i)]) ⟨rfl, ?_,rfl⟩ ?_
  · simp [upd,u8V,mv,ct]
    refine (List.eq_replicate_iff.2 ⟨by simp, ?_⟩).symm
    intro b hb
    obtain ⟨j,hj,rfl⟩:=List.mem_map.1 hb
    simp at hj
    simp [show ¬ k≤j by omega]
  rintro T i σ ⟨m,hm⟩ hi ⟨rfl,e0,rfl⟩ hN hX hR
  simp only at e0
  simp (maxSteps:=1000000) (disch:=omega) only [rg,gD,simprocAttr]
  refine ⟨fun h => ?_,fun h => ?_⟩
  · have h':i < k:=by omega
    have hk:k - 1 - i < (u8V (ct i)).length:=by simp [u8V_len,ct]; omega
    have hk':k - 1 - i < (ct i).length:=by simp [ct]; omega
    have hg:(u8V (ct i))[k - 1 - i]?=some (.int .u8 ((ct i)[k - 1 - i].toNat)):=mv_get hk'
    have e2:=shr8 N i (by omega)
    simp (maxSteps:=1000000) (disch:=omega) only [rg,gD,simprocAttr,e0,hg,IntKind.bits,e2,wrap_u8,V.cell,show ((k:Int) - 1 - i).toNat=k - 1 - i by omega]
    have hset:(u8V (ct i)).set (k - 1 - i) (.int .u8 (UInt8.ofNat (N / 256 ^ i % 256)).toNat)=u8V (ct (i+1)):=by
      rw [u8V,mv_set (f:=fun b:UInt8 => V.int .u8 b.toNat)]
      congr 1
      refine List.ext_getElem (by simp [ct]) fun j h1 h2 => ?_
      simp [ct] at h1
      rw [List.getElem_set]
      simp only [ct,List.getElem_map,List.getElem_range]
      by_cases hj:k - 1 - i=j
      · rw [if_pos hj,if_pos (by omega),show k - 1 - j=i by omega]
      · rw [if_neg hj]
        by_cases hk2:k≤i+j
        · rw [if_pos hk2,if_pos (by omega)]
        · rw [if_neg hk2,if_neg (by omega)]
    rw [hset]
    exact ⟨by omega,by omega,hN _ _ h' ⟨rfl,(by simp (disch:=omega) only [upd_eq,upd_ne,wo_0,wo_1,wo_2]),rfl⟩⟩
  · obtain rfl:i=k:=by omega
    refine hX _ _ _ ?_
    simp (maxSteps:=1000000) (disch:=omega) only [rg,gD,simprocAttr]
    refine x_frz0 ?_
    simp (maxSteps:=1000000) (disch:=omega) only [rg,gD,simprocAttr,e0,u8V_len]
    have hct:ct i=beS i N:=by
      refine List.ext_getElem (by simp [ct,beS_len]) fun j h1 h2 => ?_
      rw [beS_get]
      simp [ct]
    have hl:(ct i).length=i:=by simp [ct]
    refine ⟨beS i N,by rw [if_pos (by omega),List.take_of_length_le (by rw [u8V_len]; omega),hct]; rfl, ?_⟩
    simp (maxSteps:=1000000) (disch:=omega) only [rg,gD,simprocAttr]
    (refine fin_x rfl ?_ ?_<;>simp [pack,lo,loL,V.closed,closedL,mv_closed,sV,hput])
theorem putS_len (n size:Int):(putS n size).1.length≤6:=by
  unfold putS; split
  · simp
  · simp [beS_len]; omega
theorem u8_fold (s:List UInt8):(s.map fun b => V.int .u8 b.toNat)=u8V s:=rfl
theorem u8V_get {l:List UInt8} {i:Nat} (h:i < l.length):(u8V l)[i]?=some (.int .u8 l[i].toNat):=mv_get h
def textS (s:Str):Str×Int:=if 65535 < s.length then ([],2) else (beS 2 s.length++s,0)
def beN (l:Str):Nat:=l.foldl (fun n c => n*256+c.toNat) 0
def getS (s:Str) (at' size:Int):Int×Int×Int :=
  if size < 1∨6 < size∨at' < 0∨(s.length:Int) < at' then (0,0,1) else if s.length - at' < size then (0,0,3) else (beN ((s.drop at'.toNat).take size.toNat),at'+size,0)
def cutS (s:Str) (at':Int):Str×Int×Int :=
  let p:=getS s at' 2
  if p.2.2≠0 then ([],0,p.2.2) else if s.length - p.2.1 < p.1 then ([],0,3) else ((s.drop p.2.1.toNat).take p.1.toNat,p.2.1+p.1,0)
def gV (p:Int×Int×Int):V:=.tup [.int .i64 p.1,.int .i64 p.2.1,.int .i64 p.2.2]
def cV (p:Str×Int×Int):V:=.tup [.str p.1,.int .i64 p.2.1,.int .i64 p.2.2]
theorem beN_snoc (l:Str) (c:UInt8):beN (l++[c])=beN l*256+c.toNat:=by simp [beN]
theorem beN_lt (l:Str):beN l < 256 ^ l.length:=by
  suffices h:∀ (n:Nat) (l:Str),l.length=n→beN l < 256 ^ n from h _ l rfl
  intro n
  induction n with
  | zero => intro l h; have:l=[]:=List.eq_nil_of_length_eq_zero h; subst this; simp [beN]
  | succ n ih =>
    intro l h
    obtain ⟨m,c,rfl⟩:∃ m c,l=m++[c]:=⟨l.dropLast,l.getLast (by intro e; subst e; simp at h),(List.dropLast_concat_getLast _).symm⟩
    have:=ih m (by simpa using h)
    rw [beN_snoc,Nat.pow_succ]
    have:=c.toNat_lt; omega
theorem or_byte (n:Nat) (c:UInt8) (hn:n < 2 ^ 48):bits2 .or .i64 ((n:Int)*256) (c.toNat:Int)=((n*256+c.toNat:Nat):Int):=by
  have hc:=c.toNat_lt
  have e:(n*256) ||| c.toNat=n*256+c.toNat:=by
    have:=Nat.two_pow_add_eq_or_of_lt (i:=8) (b:=c.toNat) (by omega) n
    rw [Nat.mul_comm n 256]; exact this.symm
  have e1:(BitVec.ofInt 64 ((n:Int)*256)).toNat=n*256:=by
    rw [show ((n:Int)*256)=((n*256:Nat):Int) by omega,BitVec.ofInt_natCast,BitVec.toNat_ofNat]; omega
  have e2:(BitVec.ofInt 64 (c.toNat:Int)).toNat=c.toNat:=by
    rw [BitVec.ofInt_natCast,BitVec.toNat_ofNat]; omega
  show IntKind.i64.wrap (((BitVec.ofInt 64 ((n:Int)*256) ||| BitVec.ofInt 64 (c.toNat:Int)):BitVec 64).toNat:Int)=_
  rw [BitVec.toNat_or,e1,e2,e]
  exact (wrap_i64 (by omega) (by omega):IntKind.i64.wrap ((n*256+c.toNat:Nat):Int)=_)
theorem code_text (s:Str) (hs:s.length≤1000000000):PCall Tryz.prog 69 [.str s] (sV (textS s)):=by
  refine en69 (by simp) (by simp [closedL,V.closed]) ?_
  simp (maxSteps:=1000000) (disch:=omega) only [rg,gD,simprocAttr,c69]
  refine ⟨fun h => ?_,fun h => ?_⟩
  · (refine fin_x rfl ?_ ?_<;>simp [pack,lo,loL,V.closed,closedL,mv_closed,sV,textS,show 65535 < s.length by omega])
  · refine ⟨_,code_put s.length 2 (by omega), ?_⟩
    have e:putS (s.length:Int) 2=(beS 2 s.length,0):=by
      unfold putS; rw [if_neg (by simp; omega)]; simp
    simp (maxSteps:=1000000) (disch:=omega) only [rg,gD,simprocAttr,e,sV]
    refine ⟨_,code_all .full [beS 2 s.length,s] (by simp) (by simp [beS_len]; omega), ?_⟩
    simp (maxSteps:=1000000) (disch:=omega) only [rg,gD,simprocAttr]
    (refine fin_x rfl ?_ ?_<;>simp [pack,lo,loL,V.closed,closedL,mv_closed,sV,textS,show ¬ 65535 < s.length by omega])
theorem code_get (s:Str) (at' size:Int) (hs:s.length≤140737488355328):PCall Tryz.prog 87 [.str s,.int .i64 at',.int .i64 size] (gV (getS s at' size)):=by
  refine en87 (by simp) (by simp [closedL,V.closed]) ?_
  by_cases c1:size < 1
  · simp (maxSteps:=1000000) (disch:=omega) only [rg,gD,simprocAttr,c87,c1]
    (refine fin_x rfl ?_ ?_<;>simp [pack,lo,loL,V.closed,closedL,mv_closed,gV,getS,c1])
  by_cases c2:6 < size
  · simp (maxSteps:=1000000) (disch:=omega) only [rg,gD,simprocAttr,c87,c1,c2]
    (refine fin_x rfl ?_ ?_<;>simp [pack,lo,loL,V.closed,closedL,mv_closed,gV,getS,c2])
  by_cases c3:at' < 0
  · simp (maxSteps:=1000000) (disch:=omega) only [rg,gD,simprocAttr,c87,c1,c2,c3]
    (refine fin_x rfl ?_ ?_<;>simp [pack,lo,loL,V.closed,closedL,mv_closed,gV,getS,c3])
  by_cases c4:(s.length:Int) < at'
  · simp (maxSteps:=1000000) (disch:=omega) only [rg,gD,simprocAttr,c87,c1,c2,c3,c4]
    (refine fin_x rfl ?_ ?_<;>simp [pack,lo,loL,V.closed,closedL,mv_closed,gV,getS,c4])
  have hno:¬ (size < 1∨6 < size∨at' < 0∨(s.length:Int) < at'):=by omega
  by_cases c5:(s.length:Int) - at' < size
  · simp (maxSteps:=1000000) (disch:=omega) only [rg,gD,simprocAttr,c87,c1,c2,c3,c4,c5]
    (refine fin_x rfl ?_ ?_<;>simp [pack,lo,loL,V.closed,closedL,mv_closed,gV,getS,hno,c5])
  obtain ⟨k,rfl⟩:∃ k:Nat,size=k:=⟨size.toNat,by omega⟩
  obtain ⟨a,rfl⟩:∃ a:Nat,at'=a:=⟨at'.toNat,by omega⟩
  have hgs:getS s a k=((beN ((s.drop a).take k):Int),(a:Int)+k,0):=by unfold getS; rw [if_neg hno,if_neg c5]; simp
  have hst:List.drop a (List.take (a+k) s)=(s.drop a).take k:=by rw [List.drop_take]; congr 1; omega
  have e1:((a:Int)+k).toNat=a+k:=by omega
  simp (maxSteps:=1000000) (disch:=omega) only [rg,gD,simprocAttr,c87,c1,c2,c3,c4,c5,e1,hst,u8_fold,u8V_len]
  refine ⟨by omega, ?_⟩
  have hl:((s.drop a).take k).length=k:=by simp; omega
  rw [hl]
  generalize hm:(s.drop a).take k=m at hl
  refine x_itp k (fun _ => True) (fun i => [(1,.int .i64 a),(2,.int .i64 k),(9,.int .i64 (beN (m.take i))),(42,.fsl .loose 1 (u8V m)),(43,.int .i64 k),(44,.int .i64 i)]) trivial rfl ?_
  intro T i hi _ hN hX hR
  simp (maxSteps:=1000000) (disch:=omega) only [rg,gD,simprocAttr]
  refine ⟨fun h => ?_,fun h => ?_⟩
  · have i1:i < m.length:=by omega
    have h6:beN (m.take i) < 2 ^ 48:=Nat.lt_of_lt_of_le (beN_lt _) (by
      rw [List.length_take,show (2:Nat) ^ 48=256 ^ 6 from rfl]
      exact Nat.pow_le_pow_right (by omega) (by omega))
    have e2:=or_byte (beN (m.take i)) m[i] h6
    have hb:=m[i].toNat_lt
    have e3:=wrap_i64 (n:=(beN (m.take i):Int)*256) (by omega) (by omega)
    simp (maxSteps:=1000000) (disch:=omega) only [rg,gD,simprocAttr,u8V_get,e2,e3,IntKind.bits,show min (8:Nat) 64=8 from rfl,Int.reducePow]
    refine hN _ (by omega) trivial ?_
    rw [List.take_succ_eq_append_getElem i1,beN_snoc]
    simp
  · obtain rfl:i=k:=by omega
    refine hX _ _ _ ?_
    simp (maxSteps:=1000000) (disch:=omega) only [rg,gD,simprocAttr]
    refine x_frz0 ?_
    simp (maxSteps:=1000000) (disch:=omega) only [rg,gD,simprocAttr]
    rw [List.take_of_length_le (by omega)]
    (refine fin_x rfl ?_ ?_<;>simp [pack,lo,loL,V.closed,closedL,mv_closed,gV,hgs,hm])
theorem getS_cases (s:Str) (a k:Int):(getS s a k=(0,0,1)∨getS s a k=(0,0,3))∨(1≤k∧k≤6∧0≤a∧a+k≤s.length∧getS s a k=((beN ((s.drop a.toNat).take k.toNat):Int),a+k,0)):=by
  unfold getS
  split
  · exact .inl (.inl rfl)
  · split
    · exact .inl (.inr rfl)
    · exact .inr ⟨by omega,by omega,by omega,by omega,rfl⟩
theorem beN_take_lt (s:Str) (a k:Nat):beN ((s.drop a).take k) < 256 ^ k :=
  Nat.lt_of_lt_of_le (beN_lt _) (Nat.pow_le_pow_right (by omega) (by simp; omega))
theorem code_cut (s:Str) (at':Int) (hs:s.length≤140737488355328):PCall Tryz.prog 89 [.str s,.int .i64 at'] (cV (cutS s at')):=by
  refine en89 (by simp) (by simp [closedL,V.closed]) ?_
  simp (maxSteps:=1000000) (disch:=omega) only [rg,gD,simprocAttr,c89]
  refine ⟨_,code_get s at' 2 hs, ?_⟩
  rcases getS_cases s at' 2 with (e | e) | ⟨h1,h2,h3,h4,e⟩
  · simp (maxSteps:=1000000) (disch:=omega) only [rg,gD,simprocAttr,e,gV]
    (refine fin_x rfl ?_ ?_<;>simp [pack,lo,loL,V.closed,closedL,mv_closed,cV,cutS,e])
  · simp (maxSteps:=1000000) (disch:=omega) only [rg,gD,simprocAttr,e,gV]
    (refine fin_x rfl ?_ ?_<;>simp [pack,lo,loL,V.closed,closedL,mv_closed,cV,cutS,e])
  · have hlt:=beN_take_lt s at'.toNat 2
    generalize hn:beN ((s.drop at'.toNat).take (2:Int).toNat)=n at e
    have hn2:n < 65536:=by rw [← hn]; exact hlt
    by_cases c:(s.length:Int) - (at'+2) < n
    · simp (maxSteps:=1000000) (disch:=omega) only [rg,gD,simprocAttr,e,gV,c]
      (refine fin_x rfl ?_ ?_<;>simp [pack,lo,loL,V.closed,closedL,mv_closed,cV,cutS,e,c])
    · simp (maxSteps:=1000000) (disch:=omega) only [rg,gD,simprocAttr,e,gV,c]
      refine ⟨by omega, ?_⟩
      have ec:cutS s at'=(List.drop (at'+2).toNat (List.take (at'+2+n).toNat s),at'+2+n,0):=by
        simp only [cutS,e]
        rw [if_neg (by simp),if_neg c,List.drop_take,show (at'+2+(n:Int)).toNat - (at'+2).toNat=n by omega]
        rfl
      (refine fin_x rfl ?_ ?_<;>simp [pack,lo,loL,V.closed,closedL,mv_closed,cV,ec])
def c70:C :=
  (.seq
 (.reg false [p (.box 5 (.v 0)),
 p (.mov (.k (.str []))),
 p (.mov (.k (.int .i64 0)))] [(1,.r 2)])
 (.seq
 (.seq
 (.reg false [p (.load (some 5) (.v 1)),
 p (.call true (.k (.fn 137 [] [])) [.r 0]),
 p (.un .not (.r 0))] [(1,.v 1),(16,.r 0)])
 (.cond (.v 16)
 (.seq
 (.reg false [p (.mov (.k (.str []))),
 p (.mov (.k (.int .i64 1)))] [(2,.r 1),(3,.r 0)])
 .ret)
 .skip))
 (.seq
 (.reg false [p (.fad 0 (.v 1)),
 p (.load (none) (.r 0)),
 p (.call true (.k (.fn 85 [] [])) [.r 0,.k (.int .i64 1)]),
 p (.mov (.r 0)),
 p (.ext (.r 0) 0),
 p (.ext (.r 1) 1),
 p (.mov (.r 1)),
 p (.mov (.r 1))] [(1,.v 1),(4,.r 1)])
 (.seq
 (.reg false [p (.fad 1 (.v 1)),
 p (.load (none) (.r 0)),
 p (.call true (.k (.fn 85 [] [])) [.r 0,.k (.int .i64 1)]),
 p (.mov (.r 0)),
 p (.ext (.r 0) 0),
 p (.ext (.r 1) 1),
 p (.mov (.r 1)),
 p (.mov (.r 1))] [(1,.v 1),(4,.v 4),(6,.r 1)])
 (.seq
 (.reg false [p (.fad 2 (.v 1)),
 p (.load (none) (.r 0)),
 p (.call true (.k (.fn 85 [] [])) [.r 0,.k (.int .i64 6)]),
 p (.mov (.r 0)),
 p (.ext (.r 0) 0),
 p (.ext (.r 1) 1),
 p (.mov (.r 1)),
 p (.mov (.r 1))] [(1,.v 1),(4,.v 4),(6,.v 6),(8,.r 1)])
 (.seq
 (.reg false [p (.fad 3 (.v 1)),
 p (.load (none) (.r 0)),
 p (.call true (.k (.fn 85 [] [])) [.r 0,.k (.int .i64 6)]),
 p (.mov (.r 0)),
 p (.ext (.r 0) 0),
 p (.ext (.r 1) 1),
 p (.mov (.r 1)),
 p (.mov (.r 1))] [(1,.v 1),(4,.v 4),(6,.v 6),(8,.v 8),(10,.r 1)])
 (.seq
 (.reg false [p (.fad 4 (.v 1)),
 p (.load (none) (.r 0)),
 p (.call true (.k (.fn 69 [] [])) [.r 0]),
 p (.mov (.r 0)),
 p (.ext (.r 0) 0),
 p (.ext (.r 1) 1),
 p (.mov (.r 1)),
 p (.mov (.r 1))] [(4,.v 4),(6,.v 6),(8,.v 8),(10,.v 10),(12,.r 1),(13,.r 0)])
 (.seq
 (.reg false [p (.mov (.v 4)),
 p (.mov (.v 6)),
 p (.mov (.v 8)),
 p (.mov (.v 10)),
 p (.mov (.v 12)),
 p (.bsl 1 [.r 4,.r 3,.r 2,.r 1,.r 0]),
 p (.call true (.k (.fn 67 [] [])) [.r 0]),
 p (.mov (.v 13)),
 p (.mov (.r 1)),
 p (.mov (.r 1))] [(2,.r 1),(3,.r 0)])
 .ret))))))))
def r70:List RV:=[.t 2,.t 3]
theorem en70:EnP Tryz.prog 70 55 c70 r70:=mkEnP (by kernel_rfl) Tryz.func70 (by kernel_rfl) ⟨_,rfl,by kernel_rfl,by kernel_rfl⟩
theorem fin_An {rvs:List RV} {r:V} {σ:Sg} {H:Hp} {l:List V} {m0:Hm} {n k:Nat} {ds:List (Nat×Option Ob)} (hl:resE σ H.m rvs=some l) (hr:pack l=r∨loosen (pack l)=r∨lo (pack l)=r) (hk:H.n≤n+k) (hm:∀ id,appd ds m0 id=none∨appd ds m0 id=H.m id):FinA rvs m0 n r ds k .norm σ H :=
  ⟨.inl rfl,⟨l,hl,hr⟩,hk,hm⟩
theorem two_flat (a b:Str):[a,b].flatten=a++b:=by simp
/-! The document's reader: where it is,and what went wrong. -/
/-! The program's reader. -/
/-! The program's writer. -/
theorem textS_len (s:Str):(textS s).1.length≤s.length+2:=by
  unfold textS; split
  · simp
  · simp [beS_len]; omega
def stBytes (s:Stt):Str:=(((putS s.is 1).1++(putS s.tried 1).1)++(putS s.due 6).1++(putS s.token 6).1)++(textS s.result).1
def i64S (s:Stt):Prop:=s.is≤9223372036854775807∧s.tried≤9223372036854775807∧s.due≤9223372036854775807∧s.token≤9223372036854775807
theorem putS_in {n k:Int} (h:1≤k∧k≤6∧0≤n∧n < 256 ^ k.toNat):putS n k=(beS k.toNat n.toNat,0):=by
  unfold putS; rw [if_neg (by omega)]
theorem textS_in {s:Str} (h:s.length≤65535):textS s=(beS 2 s.length++s,0):=by
  unfold textS; rw [if_neg (by omega)]
def stPutS (s:Stt):Str×Int:=if standsS s=true then (stBytes s,0) else ([],1)
theorem task_put (s:Stt) (hs:s.result.length≤4611686018427387904) (hi:i64S s):PCall Tryz.prog 70 [sttV s] (sV (stPutS s)):=by
  refine en70 (by simp) (by simp [closedL,V.closed,sttV_closed]) ?_
  have kst:=task_stands s hs
  obtain ⟨i1,i2,i3,i4⟩:=hi
  have p1:=putS_len s.is 1
  have p2:=putS_len s.tried 1
  have p3:=putS_len s.due 6
  have p4:=putS_len s.token 6
  have p5:=textS_len s.result
  unfold sttV at kst
  simp (maxSteps:=1000000) (disch:=omega) only [rg,gD,simprocAttr,c70,sttV]
  refine ⟨_,kst, ?_⟩
  cases hst:standsS s with
  | false =>
    simp (maxSteps:=1000000) (disch:=omega) only [rg,gD,simprocAttr]
    (refine fin_x rfl ?_ ?_<;>simp [pack,lo,loL,V.closed,closedL,mv_closed,sV,stPutS,hst])
  | true =>
    have hlen:s.result.length≤65535:=by simp only [standsS,Bool.and_eq_true,decide_eq_true_eq] at hst; omega
    simp (maxSteps:=1000000) (disch:=omega) only [rg,gD,simprocAttr]
    refine ⟨_,code_put s.is 1 i1, ?_⟩
    simp (maxSteps:=1000000) (disch:=omega) only [rg,gD,simprocAttr,sV]
    refine ⟨_,code_put s.tried 1 i2, ?_⟩
    simp (maxSteps:=1000000) (disch:=omega) only [rg,gD,simprocAttr,sV]
    refine ⟨_,code_put s.due 6 i3, ?_⟩
    simp (maxSteps:=1000000) (disch:=omega) only [rg,gD,simprocAttr,sV]
    refine ⟨_,code_put s.token 6 i4, ?_⟩
    simp (maxSteps:=1000000) (disch:=omega) only [rg,gD,simprocAttr,sV]
    refine ⟨_,code_text s.result (by omega), ?_⟩
    simp (maxSteps:=1000000) (disch:=omega) only [rg,gD,simprocAttr,sV]
    refine ⟨_,code_all .full [(putS s.is 1).1,(putS s.tried 1).1,(putS s.due 6).1,(putS s.token 6).1,(textS s.result).1] (by simp) (by simp; omega), ?_⟩
    simp (maxSteps:=1000000) (disch:=omega) only [rg,gD,simprocAttr]
    have e:[(putS s.is 1).1,(putS s.tried 1).1,(putS s.due 6).1,(putS s.token 6).1,(textS s.result).1].flatten=stBytes s:=by simp [stBytes]
    have e2:(textS s.result).2=0:=by rw [textS_in hlen]
    (refine fin_x rfl ?_ ?_<;>simp [pack,lo,loL,V.closed,closedL,mv_closed,sV,stPutS,hst,e,e2])
theorem stBytes_len (s:Stt):(stBytes s).length≤26+s.result.length:=by
  have p1:=putS_len s.is 1
  have p2:=putS_len s.tried 1
  have p3:=putS_len s.due 6
  have p4:=putS_len s.token 6
  have p5:=textS_len s.result
  simp [stBytes]; omega
theorem putS_ok {n k:Int}:(putS n k).2=0↔(1≤k∧k≤6∧0≤n∧n < 256 ^ k.toNat):=by
  unfold putS; split
  · simp only; constructor
    · intro h; omega
    · intro h; omega
  · simp only [true_iff]; omega
/-! What was written is read again. -/
theorem beN_beS:∀ (k n:Nat),n < 256 ^ k→beN (beS k n)=n
  | 0,n,h => by simp at h; subst h; rfl
  | k+1,n,h => by
    rw [beS,beN_snoc,beN_beS k (n / 256) (by rw [Nat.pow_succ] at h; omega)]
    have:(UInt8.ofNat (n % 256)).toNat=n % 256:=by simp
    rw [this]; omega
theorem getS_put {s pre post:Str} {n k:Int} (hs:s=pre++(putS n k).1++post) (hp:(putS n k).2=0):getS s pre.length k=(n,pre.length+k,0):=by
  obtain ⟨h1,h2,h3,h4⟩:=putS_ok.1 hp
  have e:=putS_in ⟨h1,h2,h3,h4⟩
  rw [e] at hs
  simp only at hs
  have hbl:=beS_len k.toNat n.toNat
  have hsl:s.length=pre.length+k.toNat+post.length:=by rw [hs,List.length_append,List.length_append,hbl]
  have hd:(s.drop (pre.length:Int).toNat).take k.toNat=beS k.toNat n.toNat:=by
    rw [hs,Int.toNat_natCast,List.append_assoc,List.drop_left,List.take_append_of_le_length (by rw [hbl]; exact Nat.le_refl _),List.take_of_length_le (by rw [hbl]; exact Nat.le_refl _)]
  unfold getS
  rw [if_neg (by omega),if_neg (by omega),hd,beN_beS _ _ (by
    have:((n.toNat:Nat):Int) < ((256 ^ k.toNat:Nat):Int):=by push_cast; omega
    exact_mod_cast this)]
  simp; omega
theorem cutS_put {s pre post t:Str} (hs:s=pre++(textS t).1++post) (ht:t.length≤65535):cutS s pre.length=(t,(pre.length:Int)+2+t.length,0):=by
  rw [textS_in ht] at hs
  simp only at hs
  have hbl:=beS_len 2 t.length
  have hp:putS (t.length:Int) 2=(beS 2 t.length,0):=by
    rw [putS_in ⟨by omega,by omega,by omega,by show (t.length:Int) < 65536; omega⟩]; simp
  have hg:=getS_put (s:=s) (pre:=pre) (post:=t++post) (n:=t.length) (k:=2) (by rw [hp,hs]; simp) (by rw [hp])
  have hsl:s.length=pre.length+(2+t.length)+post.length:=by rw [hs,List.length_append,List.length_append,List.length_append,hbl]
  unfold cutS
  simp only [hg]
  rw [if_neg (by simp),if_neg (by omega)]
  have e1:((pre.length:Int)+2).toNat=(pre++beS 2 t.length).length:=by rw [List.length_append,hbl]; omega
  have e3:s=(pre++beS 2 t.length)++(t++post):=by rw [hs]; simp
  rw [e1,e3,List.drop_left]
  simp
def intsB (l:List Int):Str:=(l.map fun x => (putS x 1).1).flatten
def tskB (t:Task):Str:=((((putS t.needs.length 1).1++intsB t.needs)++(putS t.tries 1).1)++(putS t.wait 3).1)++(putS t.lease 3).1
def tsksB (l:List Task):Str:=(l.map tskB).flatten
def dagB (d:Dag):Str:=((textS d.name).1++(putS d.tasks.length 1).1)++tsksB d.tasks
theorem intsB_cons {x:Int} {l:List Int}:intsB (x::l)=(putS x 1).1++intsB l:=rfl
theorem tsksB_cons {t:Task} {l:List Task}:tsksB (t::l)=tskB t++tsksB l:=rfl
theorem intsB_succ {l:List Int} {i:Nat} (h:i < l.length):intsB (l.take (i+1))=intsB (l.take i)++(putS l[i] 1).1:=by
  rw [List.take_succ_eq_append_getElem h,intsB,List.map_append,List.flatten_append]; simp [intsB]
theorem tsksB_succ {l:List Task} {i:Nat} (h:i < l.length):tsksB (l.take (i+1))=tsksB (l.take i)++tskB l[i]:=by
  rw [List.take_succ_eq_append_getElem h,tsksB,List.map_append,List.flatten_append]; simp [tsksB]
theorem putS_len1 (n:Int):(putS n 1).1.length≤1:=by
  unfold putS; split
  · simp
  · simp [beS_len]
theorem putS_len3 (n:Int):(putS n 3).1.length≤3:=by
  unfold putS; split
  · simp
  · simp [beS_len]
theorem intsB_len:∀ (l:List Int),(intsB l).length≤l.length
  | [] => by simp [intsB]
  | x::l => by
    have h1:=putS_len1 x
    have h2:=intsB_len l
    rw [intsB_cons,List.length_append,List.length_cons]; omega
theorem tskB_len (t:Task):(tskB t).length≤t.needs.length+8:=by
  have h1:=putS_len1 t.needs.length
  have h2:=intsB_len t.needs
  have h3:=putS_len1 t.tries
  have h4:=putS_len3 t.wait
  have h5:=putS_len3 t.lease
  simp only [tskB,List.length_append]; omega
theorem tsksB_len {N:Nat}:∀ {l:List Task},(∀ t∈l,t.needs.length≤N)→(tsksB l).length≤l.length*(N+8)
  | [],_ => by simp [tsksB]
  | t::l,h => by
    have h1:=tskB_len t
    have h2:=h t (by simp)
    have h3:=tsksB_len (l:=l) fun x hx => h x (by simp [hx])
    rw [tsksB_cons,List.length_append,List.length_cons,Nat.add_mul]; omega
def tskFit (t:Task):Prop:=(putS t.needs.length 1).2=0∧(∀ x∈t.needs,(putS x 1).2=0)∧(putS t.tries 1).2=0∧(putS t.wait 3).2=0∧(putS t.lease 3).2=0
def dagFit (d:Dag):Prop:=d.name.length≤65535∧(putS d.tasks.length 1).2=0∧∀ t∈d.tasks,tskFit t
theorem right_fit {d:Dag} (h:refRightS d=0):dagFit d∧d.tasks.length≤10∧d.name.length≤16∧1≤d.tasks.length∧∀ t∈d.tasks,t.needs.length≤10:=by
  unfold refRightS at h
  by_cases c0:10 < d.tasks.length
  · rw [if_pos c0] at h; simp at h
  rw [if_neg c0] at h
  by_cases c1:shapedS d=false
  · rw [if_pos c1] at h; simp at h
  simp only [Bool.not_eq_false] at c1
  simp only [shapedS,Bool.and_eq_true,Bool.not_eq_true',decide_eq_false_iff_not,List.all_eq_true] at c1
  obtain ⟨h1,h2⟩:=c1
  have e1:(256:Int) ^ (1:Int).toNat=256:=rfl
  have e3:(256:Int) ^ (3:Int).toNat=16777216:=rfl
  have each:∀ t∈d.tasks,tskFit t∧t.needs.length≤10:=by
    intro t ht
    have h3:=h2 t ht
    simp only [taskOkS,taskNumS,Bool.and_eq_true,decide_eq_true_eq] at h3
    obtain ⟨h4,h5⟩:=h3
    have h6:=rise_range h4 (by omega)
    have h7:t.needs.length≤10:=by have:=h6.2; omega
    refine ⟨⟨putS_ok.2 ?_,fun x hx => putS_ok.2 ?_,putS_ok.2 ?_,putS_ok.2 ?_,putS_ok.2 ?_⟩,h7⟩
    · rw [e1]; omega
    · have:=h6.1 x hx; rw [e1]; omega
    · rw [e1]; omega
    · rw [e3]; omega
    · rw [e3]; omega
  refine ⟨⟨by omega,putS_ok.2 (by rw [e1]; omega),fun t ht => (each t ht).1⟩,by omega,by omega,by omega,fun t ht => (each t ht).2⟩
def dagPutS (d:Dag):Str×Int:=if refRightS d=0 then (dagB d,0) else ([],refRightS d)
def keysP (l:List Pr):List Str:=l.map (·.1)
def Srt (l:List Pr):Prop:=l.Pairwise fun a b => ltS a.1 b.1=true
theorem srt_uniq {l l':List Pr} (h:Srt l) (h':Srt l') (p:l.Perm l'):l=l':=by
  have w:∀ {l:List Pr},Srt l→l.Pairwise fun a b => (ltS a.1 b.1=true∨a=b):=fun h => h.imp fun h => .inl h
  refine List.Perm.eq_of_pairwise (le:=fun a b => ltS a.1 b.1=true∨a=b) (fun a b _ _ h1 h2 => ?_) (w h) (w h') p
  rcases h1 with h1 | h1
  · rcases h2 with h2 | h2
    · rw [lt_asy h1] at h2; cases h2
    · exact h2.symm
  · exact h1
theorem srt_of {l:List Pr} (h:l.Pairwise fun a b => ltS b.1 a.1=false) (hk:(keysP l).Nodup):Srt l:=by
  have hk':l.Pairwise fun a b => a.1≠b.1:=by simpa [keysP,List.Nodup,List.pairwise_map] using hk
  refine (h.and hk').imp fun ⟨h1,h2⟩ => ?_
  rcases lt_not h1 with e | e
  · exact absurd e.symm h2
  · exact e
def withP (k v:Str):Bool→List Pr→List Pr
  | put,[] => if put=true then [] else [(k,v)]
  | put,p::l => (if put=false∧ltS p.1 k=false then [(k,v)] else [])++(if p.1≠k then [p] else [])++withP k v (put || !ltS p.1 k) l
theorem withP_true (k v:Str):∀ l:List Pr,withP k v true l=l.filter fun p => decide (p.1≠k)
  | [] => rfl
  | p::l => by
    simp only [withP,Bool.true_eq_false,false_and,if_false,List.nil_append,Bool.true_or,withP_true k v l]
    by_cases h:p.1=k<;>simp [h]
theorem withP_mem (k v:Str):∀ (l:List Pr) (p:Pr),p∈withP k v false l↔p=(k,v)∨(p∈l∧p.1≠k)
  | [],p => by simp [withP]
  | q::l,p => by
    simp only [withP,true_and,Bool.false_or,List.mem_append]
    cases h:ltS q.1 k with
    | true =>
      have hne:=lt_ne h
      simp only [Bool.true_eq_false,if_false,Bool.not_true,if_pos hne,withP_mem k v l,List.not_mem_nil,false_or,or_false,List.mem_singleton,List.mem_cons]
      constructor
      · rintro (rfl | rfl | ⟨h1,h2⟩)
        · exact .inr ⟨.inl rfl,hne⟩
        · exact .inl rfl
        · exact .inr ⟨.inr h1,h2⟩
      · rintro (rfl | ⟨rfl | h1,h2⟩)
        · exact .inr (.inl rfl)
        · exact .inl rfl
        · exact .inr (.inr ⟨h1,h2⟩)
    | false =>
      simp only [if_true,Bool.not_false,withP_true,List.mem_singleton,List.mem_filter,decide_eq_true_eq,List.mem_cons,List.not_mem_nil,or_false]
      by_cases hq:q.1=k
      · simp only [hq,ne_eq,not_true,if_false,List.not_mem_nil,or_false]
        constructor
        · rintro (rfl | ⟨h1,h2⟩)
          · exact .inl rfl
          · exact .inr ⟨.inr h1,h2⟩
        · rintro (rfl | ⟨rfl | h1,h2⟩)
          · exact .inl rfl
          · exact absurd hq h2
          · exact .inr ⟨h1,h2⟩
      · simp only [ne_eq,hq,not_false_eq_true,if_true,List.mem_singleton]
        constructor
        · rintro ((rfl | rfl) | ⟨h1,h2⟩)
          · exact .inl rfl
          · exact .inr ⟨.inl rfl,hq⟩
          · exact .inr ⟨.inr h1,h2⟩
        · rintro (rfl | ⟨rfl | h1,h2⟩)
          · exact .inl (.inl rfl)
          · exact .inl (.inr rfl)
          · exact .inr ⟨h1,h2⟩
theorem withP_srt (k v:Str):∀ {l:List Pr},Srt l→Srt (withP k v false l)
  | [],_ => by simp [withP,Srt]
  | q::l,h => by
    obtain ⟨h1,h2⟩:=List.pairwise_cons.1 h
    simp only [withP,true_and,Bool.false_or]
    cases hq:ltS q.1 k with
    | true =>
      have hne:=lt_ne hq
      simp only [Bool.true_eq_false,if_false,Bool.not_true,if_pos hne,List.nil_append,List.singleton_append]
      refine List.pairwise_cons.2 ⟨fun p hp => ?_,withP_srt k v h2⟩
      rcases (withP_mem k v l p).1 hp with rfl | ⟨hp,_⟩
      · exact hq
      · exact h1 p hp
    | false =>
      simp only [if_true,Bool.not_false,withP_true]
      have hf:Srt (l.filter fun p => decide (p.1≠k)):=h2.sublist List.filter_sublist
      by_cases he:q.1=k
      · simp only [he,ne_eq,not_true,if_false,List.append_nil,List.singleton_append]
        refine List.pairwise_cons.2 ⟨fun p hp => ?_,hf⟩
        have:=h1 p ((List.mem_filter.1 hp).1); rwa [he] at this
      · have hlt:ltS k q.1=true:=(lt_not hq).resolve_left he
        simp only [ne_eq,he,not_false_eq_true,if_true,List.cons_append,List.nil_append]
        refine List.pairwise_cons.2 ⟨fun p hp => ?_,List.pairwise_cons.2 ⟨fun p hp => h1 p ((List.mem_filter.1 hp).1),hf⟩⟩
        rcases List.mem_cons.1 hp with rfl | hp
        · exact hlt
        · exact lt_trans' hlt (h1 p ((List.mem_filter.1 hp).1))
theorem srt_pairs_nodup {l:List Pr} (h:Srt l):l.Nodup:=h.imp fun h e => by rw [e] at h; rw [lt_irr] at h; cases h
theorem withP_perm {k v:Str} {l:List Pr} (h:Srt l) (hn:k∉keysP l):(withP k v false l).Perm ((k,v)::l):=by
  refine (List.perm_ext_iff_of_nodup (srt_pairs_nodup (withP_srt k v h)) ?_).2 fun p => ?_
  · exact List.nodup_cons.2 ⟨fun hm => hn (List.mem_map.2 ⟨_,hm,rfl⟩),srt_pairs_nodup h⟩
  · rw [withP_mem,List.mem_cons]
    constructor
    · rintro (h | ⟨h,_⟩)
      · exact .inl h
      · exact .inr h
    · rintro (h | h)
      · exact .inl h
      · exact .inr ⟨h,fun e => hn (List.mem_map.2 ⟨p,h,e⟩)⟩
def putsP (l0 l:List Pr):List Pr:=l.foldl (fun a p => withP p.1 p.2 false a) l0
theorem puts_ok:∀ {l:List Pr} {l0:List Pr},Srt l0→(keysP (l0++l)).Nodup→Srt (putsP l0 l)∧(putsP l0 l).Perm (l0++l)
  | [],l0,h,_ => by simp [putsP]; exact h
  | p::l,l0,h,hk => by
    have hn:p.1∉keysP l0:=by
      simp only [keysP,List.map_append,List.map_cons,List.nodup_append] at hk
      intro hm; exact hk.2.2 _ hm _ (by simp) rfl
    have hp:=withP_perm (v:=p.2) h hn
    have h2:(withP p.1 p.2 false l0++l).Perm (l0++p::l):=(hp.append_right l).trans (List.perm_middle.symm)
    obtain ⟨q1,q2⟩:=puts_ok (l:=l) (withP_srt p.1 p.2 h) ((h2.map _).nodup_iff.2 hk)
    exact ⟨q1,q2.trans h2⟩
/-! The pairs of a world. -/
def dagPr (d:Dag):Pr:=([100]++d.name,dagB d)
def metaPr (w:Wd):List Pr:=if 0 < w.now∨0 < w.token then [([109],(putS w.now 6).1++(putS w.token 6).1)] else []
def runPr (r:Rn):Pr:=([114]++r.key,(putS r.is 1).1++(textS r.dag.name).1)
def sttPr (r:Rn) (i:Nat) (s:Stt):Pr:=(([116]++r.key)++(putS i 1).1,stBytes s)
def sttsPr (r:Rn) (k:Nat):List Pr:=(List.range k).map fun i => sttPr r i (r.states.getD i zS)
def runPrs (r:Rn):List Pr:=runPr r::sttsPr r r.states.length
def runsPr (l:List Rn):List Pr:=l.flatMap runPrs
def rowsL (w:Wd):List Pr:=w.dags.map dagPr++(metaPr w++runsPr w.runs)
def rowsS (w:Wd):List Pr:=putsP [] (metaPr w++(w.dags.map dagPr++runsPr w.runs))
theorem rowsL_perm (w:Wd):(metaPr w++(w.dags.map dagPr++runsPr w.runs)).Perm (rowsL w):=by
  unfold rowsL
  rw [← List.append_assoc,← List.append_assoc]
  exact List.perm_append_comm.append_right _
theorem beS_inj1 {a b:Nat} (ha:a < 256) (hb:b < 256) (h:(putS (a:Int) 1).1=(putS (b:Int) 1).1):a=b:=by
  rw [putS_in (by refine ⟨by omega,by omega,by omega, ?_⟩; simp; omega),putS_in (by refine ⟨by omega,by omega,by omega, ?_⟩; simp; omega)] at h
  simp only [Int.toNat_natCast,beS,Int.toNat_one,List.nil_append,List.cons.injEq,and_true] at h
  have:=congrArg UInt8.toNat h
  simp at this; omega
theorem put1_len {a:Nat} (ha:a < 256):(putS (a:Int) 1).1.length=1:=by
  rw [putS_in (by refine ⟨by omega,by omega,by omega, ?_⟩; simp; omega)]; simp [beS_len]
theorem runPrs_keys {r:Rn} (hs:r.states.length≤200):(keysP (runPrs r)).Nodup∧∀ k∈keysP (runPrs r),k=[114]++r.key∨∃ i,i < r.states.length∧k=([116]++r.key)++(putS (i:Int) 1).1:=by
  have hmem:∀ k∈keysP (sttsPr r r.states.length),∃ i,i < r.states.length∧k=([116]++r.key)++(putS (i:Int) 1).1:=fun k hk => by
    simp only [keysP,sttsPr,List.map_map,List.mem_map,List.mem_range,Function.comp] at hk
    obtain ⟨i,hi,rfl⟩:=hk
    exact ⟨i,hi,rfl⟩
  refine ⟨?_,fun k hk => ?_⟩
  · simp only [runPrs,keysP,List.map_cons]
    refine List.nodup_cons.2 ⟨fun hm => ?_, ?_⟩
    · obtain ⟨i,_,e⟩:=hmem _ hm
      simp [runPr] at e
    · simp only [sttsPr,List.map_map,List.Nodup,List.pairwise_map]
      refine List.Pairwise.imp_of_mem (fun {i j} hi hj h e => ?_) (List.nodup_range (n:=r.states.length))
      simp only [List.mem_range] at hi hj
      simp only [Function.comp,sttPr] at e
      exact h (beS_inj1 (by omega) (by omega) (List.append_cancel_left e))
  · simp only [runPrs,keysP,List.map_cons,List.mem_cons] at hk
    rcases hk with rfl | hk
    · exact .inl rfl
    · exact .inr (hmem k hk)
section
open Go Go.RowKit Go.Sort Go.Shelf
def encP (p:Pr):List Value:=[.string ⟨p.1.toArray⟩,.string ⟨p.2.toArray⟩]
theorem RL_prs {g:G}:∀ {l:List Pr} {xs:List Value},RL g (mv prV l) xs↔xs=l.flatMap encP
  | [],_ => by simp [mv,RL]
  | p::l,xs => by
    simp only [mv_cons,RL,List.flatMap_cons]
    constructor
    · rintro ⟨y,ys,rfl,⟨_,h1⟩,h2⟩
      rw [RL_prs] at h2; subst h2
      simp only [prV,R,RC] at h1
      obtain ⟨zs,rfl,⟨a,_,e1,rfl,b,_,rfl,rfl,rfl⟩,_⟩:=h1
      simp only [Value.cells,e1,encP]
    · rintro rfl
      refine ⟨.agg (encP p).toArray,l.flatMap encP,rfl,⟨rfl, ?_⟩,RL_prs.2 rfl⟩
      simp only [prV,R,RC]
      exact ⟨_,rfl,⟨_,_,rfl,rfl,_,_,rfl,rfl,rfl⟩,by simp [V.cell]⟩
theorem flatP_get:∀ (l:List Pr) (t:Nat) (h:t < l.length*2),(l.flatMap encP)[t]?=some ((encP l[t / 2]!)[t % 2]!)
  | [],t,h => by simp at h
  | p::l,0,h => by simp [encP]
  | p::l,1,h => by simp [encP]
  | p::l,t+2,h => by
    have:=flatP_get l t (by simp at h; omega)
    rw [List.flatMap_cons,show (encP p)=[.string ⟨p.1.toArray⟩,.string ⟨p.2.toArray⟩] from rfl]
    simp only [List.cons_append,List.nil_append,List.getElem?_cons_succ]
    rw [this,show (t+2) / 2=t / 2+1 by omega,show (t+2) % 2=t % 2 by omega]
    simp
theorem flatP_len (l:List Pr):(l.flatMap encP).length=l.length*2:=by
  induction l with
  | nil => rfl
  | cons p l ih => rw [List.flatMap_cons,List.length_append,ih]; simp [encP]; omega
def sortP (cf:Pr→Pr→Int) (l:List Pr):List Pr:=(pdq (ltOf cf) l.toArray 0 l.length (Lib.bitLen l.length) true true).toList
theorem sortP_ok {cf:Pr→Pr→Int} (hO:SWO (ltOf cf)) (l:List Pr):(sortP cf l).Perm l∧(sortP cf l).Pairwise fun a b => ltOf cf b a=false:=by
  have h:=pdq_sorts (ltOf cf) hO l.toArray 0 l.toArray.size (Lib.bitLen l.toArray.size) true true (Nat.zero_le _) (Nat.le_refl _) (Or.inl rfl)
  simp only [List.size_toArray] at h
  obtain ⟨⟨h1,_,h2⟩,h3⟩:=h
  have e:(pdq (ltOf cf) l.toArray 0 l.length (Lib.bitLen l.length) true true).toList=sortP cf l:=rfl
  generalize pdq (ltOf cf) l.toArray 0 l.length (Lib.bitLen l.length) true true=d at h1 h2 h3 e
  rw [← e]
  simp only [List.size_toArray] at h1
  refine ⟨?_, ?_⟩
  · have e1:d.extract 0 l.length=d:=by rw [← h1]; exact Array.extract_size
    rw [e1] at h2
    simpa using h2
  · refine List.pairwise_iff_getElem.2 fun i j hi hj hij => ?_
    have:=h3 i j (Nat.zero_le _) hij (by simp at hj; omega)
    simp at hi hj
    rwa [getElem!_pos d j hj,getElem!_pos d i hi] at this
theorem sort_acall {P:Program} {ρ:Ren} (L:SlLaysF0.n6 P ρ) (aE:∀ w,(isAgg (ρ.t 24)).run P w=.ok true w) (zE:∀ w,(Go.sizeOf (ρ.t 24)).run P w=.ok 2 w) (hb:HasBody P (ρ.f 6)) {cf:Pr→Pr→Int} (hO:SWO (ltOf cf)) {q:Nat}
    (eg:∀ args w,(callFunc q args).run P w=.ok (.enter q args) w)
    (hcmp:∀ (x y:Pr) (W:World),Calls P q #[.agg (encP x).toArray,.agg (encP y).toArray] W fun e w' => e=.returned (.int .i64 (cf x y))∧∃ q os',w'=grow (W.drewN q) os')
    {H:Hp} {ii:Nat} {l:List Pr} (hm:H.m ii=some (.arr 2 (mv prV l))) (hne:l≠[]) (hl:l.length < 4611686018427387904) :
    ACall P (ρ.f 6) [.sl ii 0 l.length,.fn q [] []] H [ii] (.tup []) [(ii,some (.arr 2 (mv prV (sortP cf l))))] 0:=by
  refine ⟨hb,by simp,fun m g w xs hag _ hs hx => ?_⟩
  have hmi:=(hag ii (by simp)).trans hm
  obtain ⟨b,n,cs,e,xs',post,h1,h2,h3,⟨h4,hfr⟩,h5,h6,h7,h8⟩:=live_cells hs hmi
  rw [RL_prs] at h5; subst h5
  simp only [RC,R] at hx
  obtain ⟨y,ys,ex,⟨b',sz',n',a,cap,k1,rfl,k3,k4⟩,z,zs,rfl,⟨fs,cs',rfl,rfl',rcs⟩,rfl⟩:=hx
  rw [h1] at k1; simp at k1; obtain ⟨rfl,rfl,rfl⟩:=k1
  have efs:fs=#[]:=by simpa using rfl'
  have ecs:cs'=#[]:=by simpa using rcs
  subst efs; subst ecs
  have hlpos:0 < l.length:=List.length_pos_iff.2 hne
  have ha:a=⟨b,0,none⟩:=by
    rcases k4 with ⟨h,_⟩ | h
    · simpa using h
    · omega
  subst ha
  have hz:=h8.1 (by decide)
  have hxs:xs=#[.slice (some ⟨b,0,none⟩) l.toArray.size cap,.func (.func q) #[] #[]]:=by apply Array.ext'; simpa using ex
  subst hxs
  have hlt:b < w.heap.size:=(Array.getElem?_eq_some_iff.1 h2).1
  have hH:HoldsK encP 2 w b 0 l.toArray:=by
    intro j hj
    rw [size_flatK] at hj
    have hj':j < l.length*2:=by simpa using hj
    refine ⟨?_, ?_⟩
    · simp only [World.cell?,h2,id]
      have e2:cs[0+j]?=(l.flatMap encP)[j]?:=by
        rw [← Array.getElem?_toList,h7,Nat.zero_add,List.getElem?_append_left (by rw [flatP_len]; exact hj')]
      rw [e2,flatP_get l j hj',get_flatK _ _ _ _ (by simpa using hj')]
      simp
    · simp [World.frozen?,h2,hz]
  have hcmp':CmpLays P q #[] encP 2 cf b 0 l.toArray.size w:=fun _ _ _ _ x y => by simpa using hcmp x y _
  refine (AnyQ.slices_SortFunc_eq L 2 aE zE encP (fun _ => rfl) (fun x v hv => by simp [encP] at hv; rcases hv with rfl | rfl<;>rfl) cf hO q #[] b 0 cap l.toArray w eg hcmp' hH hlt (by simpa using hl)).mono ?_
  rintro e' w' ⟨rfl,nn,os,rfl⟩
  obtain ⟨hp,_⟩:=sortP_ok hO l
  have hd:pdq (ltOf cf) l.toArray 0 l.toArray.size (Lib.bitLen l.toArray.size) true true=(sortP cf l).toArray:=by simp [sortP]
  rw [hd]
  have hlen:(sortP cf l).length=l.length:=hp.length_eq
  have hfl:((sortP cf l).flatMap encP).length=(l.flatMap encP).length:=by rw [flatP_len,flatP_len,hlen]
  -- the world without what was laid
  let w1:World:=putRowK encP 2 (Sort.ahead w nn) b 0 (sortP cf l).toArray
  let cs1:Array Value:=putCells id 0 (flatK encP 2 (sortP cf l).toArray) cs
  have hb1:w1.heap[b]?=some (.cells cs1 e.1 e.2):=by
    show ((Sort.ahead w nn).heap.modify b _)[b]?=_
    rw [Array.getElem?_modify,if_pos rfl]
    show Option.map _ w.heap[b]?=_
    rw [h2]; rfl
  have ho1:∀ k,k≠b→w1.heap[k]?=w.heap[k]?:=fun k hk => by
    show ((Sort.ahead w nn).heap.modify b _)[k]?=_
    rw [Array.getElem?_modify,if_neg (Ne.symm hk)]; rfl
  have hz1:w1.heap.size=w.heap.size:=by
    show ((Sort.ahead w nn).heap.modify b _).size=_
    rw [Array.size_modify]; rfl
  have hcs1:cs1.toList=(sortP cf l).flatMap encP++post:=by
    refine List.ext_getElem? fun j => ?_
    show (putCells id 0 (flatK encP 2 (sortP cf l).toArray) cs).toList[j]?=_
    rw [Array.getElem?_toList]
    simp only [putCells,Array.getElem?_mapIdx,size_flatK,List.size_toArray,Nat.zero_add,Nat.zero_le,true_and,Nat.sub_zero]
    rw [← Array.getElem?_toList,h7]
    by_cases hj:j < (sortP cf l).length*2
    · have hj2:j < (l.flatMap encP).length:=by rw [flatP_len,← hlen]; exact hj
      rw [List.getElem?_append_left hj2,List.getElem?_append_left (by rw [flatP_len]; exact hj),flatP_get _ _ hj,List.getElem?_eq_getElem hj2,Option.map_some,if_pos hj,get_flatK _ _ _ _ (by simpa using hj)]
      simp
    · rw [List.getElem?_append_right (by rw [flatP_len,← hlen]; omega),List.getElem?_append_right (by rw [flatP_len]; omega),hfl]
      cases post[j - (l.flatMap encP).length]? with
      | none => rfl
      | some v => rw [Option.map_some,if_neg hj]
  have hcz:cs1.size=n:=by
    show (putCells id 0 (flatK encP 2 (sortP cf l).toArray) cs).size=n
    simp only [putCells,Array.size_mapIdx]; exact h3
  obtain ⟨q1,q2⟩:=hs.put (w':=w1) ⟨rfl,rfl,rfl⟩ hmi h1 hb1 hfr ho1 hz1 hcz (RL_prs.2 rfl) (fun v hv => by obtain ⟨p,_,rfl⟩:=List.mem_map.1 hv; rfl) hcs1 h8
  have hg:∀ k,k < w1.heap.size→(grow w1 os).heap[k]?=w1.heap[k]?:=fun k hk => by
    show (w1.heap++os)[k]?=_
    rw [Array.getElem?_append_left hk]
  have hgs:w1.heap.size≤(grow w1 os).heap.size:=by show _≤(w1.heap++os).size; simp
  have r1:=q1.still (w':=grow w1 os) hgs hg
  refine ⟨.tuple #[],g,rfl,by simp [R,RC],r1,fun _ _ => rfl,q2.trans ⟨hgs,fun k hk _ => hg k hk,.refl g,fun k hk => .inr hk,fun _ _ h => .inl h,rfl,rfl,rfl⟩⟩
theorem sort_none {P:Program} {ρ:Ren} (L:SlLaysF0.n6 P ρ) (hb:HasBody P (ρ.f 6)) (f:V) (st:St):PCall P (ρ.f 6) [.fsl st 2 [],f] (.tup []):=by
  refine .of_below hb fun g m w xs hs hx => ?_
  simp only [RC,R] at hx
  obtain ⟨y,ys,ex,⟨a,cap,xs',rfl,_⟩,z,zs,rfl,_,rfl⟩:=hx
  have hxs:xs=#[.slice a 0 cap,z]:=by apply Array.ext'; simpa using ex
  subst hxs
  refine (AnyF.slices_SortFunc_none L a cap z w).mono ?_
  rintro e w' ⟨rfl,rfl⟩
  exact ⟨_,rfl,by simp [R,RC],Below.refl _ _⟩
theorem sort_none_sl {P:Program} {ρ:Ren} (L:SlLaysF0.n6 P ρ) (hb:HasBody P (ρ.f 6)) (f:V) (ii:Nat) (H:Hp):ACall P (ρ.f 6) [.sl ii 0 0,f] H [] (.tup []) [] 0:=by
  refine ⟨hb,by simp,fun m g w xs _ _ hs hx => ?_⟩
  simp only [RC,R] at hx
  obtain ⟨y,ys,ex,⟨b,sz,n,a,cap,_,rfl,_⟩,z,zs,rfl,_,rfl⟩:=hx
  have hxs:xs=#[.slice (some a) 0 cap,z]:=by apply Array.ext'; simpa using ex
  subst hxs
  refine (AnyF.slices_SortFunc_none L (some a) cap z w).mono ?_
  rintro e w' ⟨rfl,rfl⟩
  exact ⟨_,g,rfl,by simp [R,RC],hs,fun _ _ => rfl,Ext.refl _ _ _⟩
end
section
open Go Go.Sort Go.Shelf
def cmpP (a b:Pr):Int:=cmpS a.1 b.1
theorem ltOf_cmp (a b:Pr):ltOf cmpP a b=ltS a.1 b.1:=by
  unfold ltOf cmpP
  rw [Bool.eq_iff_iff,decide_eq_true_eq]; exact cmp_lt _ _
theorem cmpP_swo:SWO (ltOf cmpP) where
  irrefl x:=by rw [ltOf_cmp]; exact lt_irr _
  trans x y z h1 h2:=by rw [ltOf_cmp] at *; exact lt_trans' h1 h2
  ntrans x y z h1 h2:=by
    rw [ltOf_cmp] at *
    cases h:ltS x.1 z.1 with
    | false => rfl
    | true =>
      rcases lt_not h1 with e | e
      · rw [e] at h; rw [h] at h2; cases h2
      · rcases lt_not h2 with e2 | e2
        · rw [← e2] at h; rw [h] at h1; cases h1
        · have:=lt_trans' e2 e; rw [lt_asy h] at this; cases this
theorem sort_is {l l':List Pr} (hk:(keysP l).Nodup) (h:Srt l') (p:l'.Perm l):sortP cmpP l=l':=by
  obtain ⟨p1,p2⟩:=sortP_ok cmpP_swo l
  refine srt_uniq (srt_of (p2.imp fun h => by rwa [ltOf_cmp] at h) ?_) h (p1.trans p.symm)
  exact (p1.map _).nodup_iff.2 hk
end
def c135:C :=
  (.seq
 (.reg false [p (.mov (.v 0)),
 p (.mov (.v 1)),
 p (.call true (.k (.fn 85 [] [])) [.r 1,.r 0]),
 p (.mov (.r 0)),
 p (.ext (.r 0) 0),
 p (.ext (.r 1) 1),
 p (.mov (.r 1)),
 p (.mov (.r 1))] [(2,.v 2),(5,.r 1)])
 (.reg false [p (.load (none) (.v 2)),
 p (.mov (.v 5)),
 p (.bsl 1 [.r 1,.r 0]),
 p (.call true (.k (.fn 67 [] [])) [.r 0]),
 p (.store (none) (.v 2) (.r 0))] []))
def r135:List RV:=[]
theorem chk135:Chk Tryz.prog Tryz.f135 c135 r135:=⟨_,rfl,by kernel_rfl,by kernel_rfl⟩
theorem ena135:EnA Tryz.prog 135 17 c135 r135:=mkEnA (by kernel_rfl) Tryz.func135 (by kernel_rfl) chk135
def c66:C :=
  (.seq
 (.reg false [p (.box 2 (.v 0)),
 p (.mov (.k (.str []))),
 p (.mov (.k (.int .i64 0)))] [(1,.r 2)])
 (.seq
 (.seq
 (.reg false [p (.load (some 2) (.v 1)),
 p (.call true (.k (.fn 54 [] [])) [.r 0]),
 p (.mov (.r 0))] [(1,.v 1),(4,.r 0)])
 (.seq
 (.reg false [p (.mov (.v 4)),
 p (.bin .neq (.r 0) (.k (.int .i64 0)))] [(1,.v 1),(4,.v 4),(15,.r 0)])
 (.cond (.v 15)
 (.seq
 (.reg false [p (.mov (.v 4)),
 p (.mov (.k (.str []))),
 p (.mov (.r 1))] [(2,.r 1),(3,.r 0)])
 .ret)
 .skip)))
 (.seq
 (.reg false [p (.fad 0 (.v 1)),
 p (.load (none) (.r 0)),
 p (.call true (.k (.fn 69 [] [])) [.r 0]),
 p (.mov (.r 0)),
 p (.ext (.r 0) 0),
 p (.ext (.r 1) 1),
 p (.alloc 1 (.str [])),
 p (.store (none) (.r 0) (.r 2)),
 p (.mov (.r 2))] [(1,.v 1),(5,.r 2)])
 (.seq
 (.reg false [p (.mkf 135 [] [.v 5]),
 p (.mov (.r 0))] [(1,.v 1),(5,.v 5),(7,.r 0)])
 (.seq
 (.reg false [p (.mov (.v 7)),
 p (.fad 1 (.v 1)),
 p (.load (none) (.r 0)),
 p (.len false (.r 0)),
 p (.call false (.r 3) [.r 0,.k (.int .i64 1)])] [(1,.v 1),(5,.v 5),(7,.v 7)])
 (.seq
 (.seq
 (.reg false [p (.fad 1 (.v 1)),
 p (.load (none) (.r 0)),
 p (.len false (.r 0)),
 p (.mov (.k (.int .i64 0)))] [(5,.v 5),(7,.v 7),(30,.r 2),(31,.r 1),(32,.r 0)])
 (.block 0
 (.loop
 (.seq
 (.reg false [p (.bin .lss (.v 32) (.v 31))] [(5,.v 5),(7,.v 7),(30,.v 30),(31,.v 31),(32,.v 32),(33,.r 0)])
 (.seq
 (.cond (.v 33)
 .skip
 (.exit 0))
 (.seq
 (.block 1
 (.seq
 (.reg false [p (.iad 4 (.v 30) (.v 32)),
 p (.load (some 4) (.r 0)),
 p (.alloc 4 (.agg [.fsl .nil 1 [],.int .i64 0,.int .i64 0,.int .i64 0])),
 p (.store (some 4) (.r 0) (.r 1))] [(5,.v 5),(7,.v 7),(9,.r 1),(30,.v 30),(31,.v 31),(32,.v 32)])
 (.seq
 (.reg false [p (.mov (.v 7)),
 p (.fad 0 (.v 9)),
 p (.load (none) (.r 0)),
 p (.len false (.r 0)),
 p (.call false (.r 3) [.r 0,.k (.int .i64 1)])] [(5,.v 5),(7,.v 7),(9,.v 9),(30,.v 30),(31,.v 31),(32,.v 32)])
 (.seq
 (.seq
 (.reg false [p (.fad 0 (.v 9)),
 p (.load (none) (.r 0)),
 p (.len false (.r 0)),
 p (.mov (.k (.int .i64 0)))] [(5,.v 5),(7,.v 7),(9,.v 9),(30,.v 30),(31,.v 31),(32,.v 32),(42,.r 2),(43,.r 1),(44,.r 0)])
 (.block 2
 (.loop
 (.seq
 (.reg false [p (.bin .lss (.v 44) (.v 43))] [(5,.v 5),(7,.v 7),(9,.v 9),(30,.v 30),(31,.v 31),(32,.v 32),(42,.v 42),(43,.v 43),(44,.v 44),(45,.r 0)])
 (.seq
 (.cond (.v 45)
 .skip
 (.exit 2))
 (.seq
 (.block 3
 (.seq
 (.reg false [p (.iad 1 (.v 42) (.v 44)),
 p (.load (none) (.r 0)),
 p (.mov (.r 0))] [(5,.v 5),(7,.v 7),(9,.v 9),(11,.r 0),(30,.v 30),(31,.v 31),(32,.v 32),(42,.v 42),(43,.v 43),(44,.v 44)])
 (.reg false [p (.mov (.v 7)),
 p (.mov (.v 11)),
 p (.call false (.r 1) [.r 0,.k (.int .i64 1)])] [(5,.v 5),(7,.v 7),(9,.v 9),(30,.v 30),(31,.v 31),(32,.v 32),(42,.v 42),(43,.v 43),(44,.v 44)])))
 (.reg false [p (.bin .add (.v 44) (.k (.int .i64 1))),
 p (.mov (.r 0))] [(5,.v 5),(7,.v 7),(9,.v 9),(30,.v 30),(31,.v 31),(32,.v 32),(42,.v 42),(43,.v 43),(44,.r 0)])))))))
 (.frz
 (.seq
 (.reg false [p (.mov (.v 7)),
 p (.fad 1 (.v 9)),
 p (.load (none) (.r 0)),
 p (.call false (.r 2) [.r 0,.k (.int .i64 1)])] [(5,.v 5),(7,.v 7),(9,.v 9),(30,.v 30),(31,.v 31),(32,.v 32)])
 (.seq
 (.reg false [p (.mov (.v 7)),
 p (.fad 2 (.v 9)),
 p (.load (none) (.r 0)),
 p (.call false (.r 2) [.r 0,.k (.int .i64 3)])] [(5,.v 5),(7,.v 7),(9,.v 9),(30,.v 30),(31,.v 31),(32,.v 32)])
 (.reg false [p (.mov (.v 7)),
 p (.fad 3 (.v 9)),
 p (.load (none) (.r 0)),
 p (.call false (.r 2) [.r 0,.k (.int .i64 3)])] [(5,.v 5),(7,.v 7),(30,.v 30),(31,.v 31),(32,.v 32)]))))))))
 (.frz
 (.reg false [p (.bin .add (.v 32) (.k (.int .i64 1))),
 p (.mov (.r 0))] [(5,.v 5),(7,.v 7),(30,.v 30),(31,.v 31),(32,.r 0)]))))))))
 (.frz
 (.seq
 (.reg false [p (.load (none) (.v 5)),
 p (.mov (.r 0)),
 p (.mov (.k (.int .i64 0)))] [(2,.r 1),(3,.r 0)])
 .ret))))))))
def r66:List RV:=[.t 2,.t 3]
theorem en66:EnP Tryz.prog 66 66 c66 r66:=mkEnP (by kernel_rfl) Tryz.func66 (by kernel_rfl) ⟨_,rfl,by kernel_rfl,by kernel_rfl⟩
def c68:C :=
  (.seq
 (.reg false [p (.mov (.k (.str [])))] [(0,.v 0),(1,.v 1)])
 (.seq
 (.reg false [p (.mov (.v 0)),
 p (.mov (.v 1)),
 p (.call true (.k (.fn 85 [] [])) [.r 1,.r 0]),
 p (.mov (.r 0)),
 p (.ext (.r 0) 0),
 p (.ext (.r 1) 1),
 p (.mov (.r 1)),
 p (.mov (.r 1))] [(5,.r 1)])
 (.seq
 (.reg false [p (.mov (.v 5)),
 p (.mov (.r 0))] [(4,.r 0)])
 .ret)))
def r68:List RV:=[.t 4]
theorem en68:EnP Tryz.prog 68 14 c68 r68:=mkEnP (by kernel_rfl) Tryz.func68 (by kernel_rfl) ⟨_,rfl,by kernel_rfl,by kernel_rfl⟩
def c65:C :=
  (.reg false [p (.load (none) (.v 2)),
 p (.mov (.v 0)),
 p (.mov (.v 1)),
 p (.build [.str [],.str []] [(0,1,.r 1),(1,1,.r 0)]),
 p (.bsl 2 [.r 0]),
 p (.app 2 32 (.r 4) (.r 0)),
 p (.store (none) (.v 2) (.r 0))] [])
def r65:List RV:=[]
theorem chk65:Chk Tryz.prog Tryz.f65 c65 r65:=⟨_,rfl,by kernel_rfl,by kernel_rfl⟩
theorem ena65:EnA Tryz.prog 65 11 c65 r65:=mkEnA (by kernel_rfl) Tryz.func65 (by kernel_rfl) chk65
def c26:C :=
  (.seq
 (.reg false [p (.box 4 (.v 0)),
 p (.mov (.k (.fsl .nil 2 []))),
 p (.mov (.k (.int .i64 0)))] [(1,.r 2)])
 (.seq
 (.seq
 (.reg false [p (.load (some 4) (.v 1)),
 p (.call true (.k (.fn 17 [] [])) [.r 0]),
 p (.un .not (.r 0))] [(1,.v 1),(20,.r 0)])
 (.cond (.v 20)
 (.seq
 (.reg false [p (.mov (.k (.fsl .nil 2 []))),
 p (.mov (.k (.int .i64 1)))] [(2,.r 1),(3,.r 0)])
 (.frz .ret))
 .skip))
 (.seq
 (.reg false [p (.alloc 1 (.fsl .nil 2 []))] [(1,.v 1),(4,.r 0)])
 (.seq
 (.reg false [p (.mkf 65 [] [.v 4]),
 p (.mov (.r 0))] [(1,.v 1),(4,.v 4),(5,.r 0)])
 (.seq
 (.seq
 (.reg false [p (.fad 2 (.v 1)),
 p (.load (none) (.r 0)),
 p (.len false (.r 0)),
 p (.mov (.k (.int .i64 0)))] [(1,.v 1),(4,.v 4),(5,.v 5),(23,.r 2),(24,.r 1),(25,.r 0)])
 (.block 0
 (.loop
 (.seq
 (.reg false [p (.bin .lss (.v 25) (.v 24))] [(1,.v 1),(4,.v 4),(5,.v 5),(23,.v 23),(24,.v 24),(25,.v 25),(26,.r 0)])
 (.seq
 (.cond (.v 26)
 .skip
 (.exit 0))
 (.seq
 (.block 1
 (.seq
 (.reg false [p (.iad 2 (.v 23) (.v 25)),
 p (.load (some 2) (.r 0)),
 p (.alloc 2 (.agg [.str [],.fsl .nil 4 []])),
 p (.store (some 2) (.r 0) (.r 1))] [(1,.v 1),(4,.v 4),(5,.v 5),(7,.r 1),(23,.v 23),(24,.v 24),(25,.v 25)])
 (.seq
 (.reg false [p (.load (some 2) (.v 7)),
 p (.call true (.k (.fn 66 [] [])) [.r 0]),
 p (.mov (.r 0)),
 p (.ext (.r 0) 0),
 p (.ext (.r 1) 1),
 p (.mov (.r 1)),
 p (.mov (.r 1))] [(1,.v 1),(4,.v 4),(5,.v 5),(7,.v 7),(8,.r 1),(23,.v 23),(24,.v 24),(25,.v 25)])
 (.reg false [p (.mov (.v 5)),
 p (.fad 0 (.v 7)),
 p (.load (none) (.r 0)),
 p (.bsl 1 [.k (.str [100]),.r 0]),
 p (.call true (.k (.fn 67 [] [])) [.r 0]),
 p (.mov (.v 8)),
 p (.call false (.r 5) [.r 1,.r 0])] [(1,.v 1),(4,.v 4),(5,.v 5),(23,.v 23),(24,.v 24),(25,.v 25)]))))
 (.reg false [p (.bin .add (.v 25) (.k (.int .i64 1))),
 p (.mov (.r 0))] [(1,.v 1),(4,.v 4),(5,.v 5),(23,.v 23),(24,.v 24),(25,.r 0)])))))))
 (.frz
 (.cut
 (.seq
 (.reg false [p (.fad 0 (.v 1)),
 p (.load (none) (.r 0)),
 p (.bin .gtr (.r 0) (.k (.int .i64 0))),
 p (.mov (.r 0)),
 ⟨.fad 1 (.v 1),some (0,false),[]⟩,
 ⟨.load (none) (.r 0),some (1,false),[]⟩,
 ⟨.bin .gtr (.r 0) (.k (.int .i64 0)),some (2,false),[]⟩,
 p (.pick (.r 3) (.k (.bool true)) (.r 0))] [(1,.v 1),(4,.v 4),(5,.v 5),(49,.r 0)])
 (.cond (.v 49)
 (.reg true [p (.mov (.v 5)),
 p (.fad 0 (.v 1)),
 p (.load (none) (.r 0)),
 p (.call true (.k (.fn 68 [] [])) [.r 0,.k (.int .i64 6)]),
 p (.fad 1 (.v 1)),
 p (.load (none) (.r 0)),
 p (.call true (.k (.fn 68 [] [])) [.r 0,.k (.int .i64 6)]),
 p (.bsl 1 [.r 3,.r 0]),
 p (.call true (.k (.fn 67 [] [])) [.r 0]),
 p (.call false (.r 8) [.k (.str [109]),.r 0])] [(1,.v 1),(4,.v 4),(5,.v 5)])
 .skip))
 (.seq
 (.seq
 (.reg false [p (.fad 3 (.v 1)),
 p (.load (none) (.r 0)),
 p (.len false (.r 0)),
 p (.mov (.k (.int .i64 0)))] [(4,.v 4),(5,.v 5),(61,.r 2),(62,.r 1),(63,.r 0)])
 (.block 2
 (.loop
 (.seq
 (.reg false [p (.bin .lss (.v 63) (.v 62))] [(4,.v 4),(5,.v 5),(61,.v 61),(62,.v 62),(63,.v 63),(64,.r 0)])
 (.seq
 (.cond (.v 64)
 .skip
 (.exit 2))
 (.seq
 (.block 3
 (.seq
 (.reg false [p (.iad 5 (.v 61) (.v 63)),
 p (.load (some 5) (.r 0)),
 p (.alloc 5 (.agg [.str [],.str [],.fsl .nil 4 [],.int .i64 0,.fsl .nil 5 []])),
 p (.store (some 5) (.r 0) (.r 1))] [(4,.v 4),(5,.v 5),(11,.r 1),(61,.v 61),(62,.v 62),(63,.v 63)])
 (.seq
 (.reg false [p (.fad 1 (.v 11)),
 p (.fad 0 (.r 0)),
 p (.load (none) (.r 0)),
 p (.call true (.k (.fn 69 [] [])) [.r 0]),
 p (.mov (.r 0)),
 p (.ext (.r 0) 0),
 p (.ext (.r 1) 1),
 p (.mov (.r 1)),
 p (.mov (.r 1))] [(4,.v 4),(5,.v 5),(11,.v 11),(12,.r 1),(61,.v 61),(62,.v 62),(63,.v 63)])
 (.seq
 (.reg true [p (.mov (.v 5)),
 p (.fad 0 (.v 11)),
 p (.load (none) (.r 0)),
 p (.bsl 1 [.k (.str [114]),.r 0]),
 p (.call true (.k (.fn 67 [] [])) [.r 0]),
 p (.fad 3 (.v 11)),
 p (.load (none) (.r 0)),
 p (.call true (.k (.fn 68 [] [])) [.r 0,.k (.int .i64 1)]),
 p (.mov (.v 12)),
 p (.bsl 1 [.r 1,.r 0]),
 p (.call true (.k (.fn 67 [] [])) [.r 0]),
 p (.call false (.r 10) [.r 6,.r 0])] [(4,.v 4),(5,.v 5),(11,.v 11),(61,.v 61),(62,.v 62),(63,.v 63)])
 (.seq
 (.reg false [p (.fad 4 (.v 11)),
 p (.load (none) (.r 0)),
 p (.len false (.r 0)),
 p (.mov (.k (.int .i64 0)))] [(4,.v 4),(5,.v 5),(11,.v 11),(61,.v 61),(62,.v 62),(63,.v 63),(87,.r 2),(88,.r 1),(89,.r 0)])
 (.block 4
 (.loop
 (.seq
 (.reg false [p (.bin .lss (.v 89) (.v 88))] [(4,.v 4),(5,.v 5),(11,.v 11),(61,.v 61),(62,.v 62),(63,.v 63),(87,.v 87),(88,.v 88),(89,.v 89),(90,.r 0)])
 (.seq
 (.cond (.v 90)
 .skip
 (.exit 4))
 (.seq
 (.block 5
 (.seq
 (.reg false [p (.mov (.v 89)),
 p (.iad 5 (.v 87) (.v 89)),
 p (.load (some 5) (.r 0)),
 p (.alloc 5 (.agg [.int .i64 0,.int .i64 0,.int .i64 0,.int .i64 0,.str []])),
 p (.mov (.r 3)),
 p (.store (some 5) (.r 1) (.r 2))] [(4,.v 4),(5,.v 5),(11,.v 11),(14,.r 1),(15,.r 2),(61,.v 61),(62,.v 62),(63,.v 63),(87,.v 87),(88,.v 88),(89,.v 89)])
 (.seq
 (.reg false [p (.load (some 5) (.v 15)),
 p (.call true (.k (.fn 70 [] [])) [.r 0]),
 p (.mov (.r 0)),
 p (.ext (.r 0) 0),
 p (.ext (.r 1) 1),
 p (.mov (.r 1)),
 p (.mov (.r 1))] [(4,.v 4),(5,.v 5),(11,.v 11),(14,.v 14),(16,.r 1),(61,.v 61),(62,.v 62),(63,.v 63),(87,.v 87),(88,.v 88),(89,.v 89)])
 (.reg true [p (.mov (.v 5)),
 p (.fad 0 (.v 11)),
 p (.load (none) (.r 0)),
 p (.mov (.v 14)),
 p (.call true (.k (.fn 68 [] [])) [.r 0,.k (.int .i64 1)]),
 p (.bsl 1 [.k (.str [116]),.r 2,.r 0]),
 p (.call true (.k (.fn 67 [] [])) [.r 0]),
 p (.mov (.v 16)),
 p (.call false (.r 7) [.r 1,.r 0])] [(4,.v 4),(5,.v 5),(11,.v 11),(61,.v 61),(62,.v 62),(63,.v 63),(87,.v 87),(88,.v 88),(89,.v 89)]))))
 (.reg false [p (.bin .add (.v 89) (.k (.int .i64 1))),
 p (.mov (.r 0))] [(4,.v 4),(5,.v 5),(11,.v 11),(61,.v 61),(62,.v 62),(63,.v 63),(87,.v 87),(88,.v 88),(89,.r 0)])))))))))))
 (.frz
 (.reg false [p (.bin .add (.v 63) (.k (.int .i64 1))),
 p (.mov (.r 0))] [(4,.v 4),(5,.v 5),(61,.v 61),(62,.v 62),(63,.r 0)]))))))))
 (.frz
 (.seq
 (.reg false [p (.load (none) (.v 4)),
 p (.call false (.k (.fn 71 [] [])) [.r 0,.k (.fn 72 [] [])])] [(4,.v 4)])
 (.seq
 (.reg false [p (.load (none) (.v 4)),
 p (.mov (.r 0)),
 p (.mov (.k (.int .i64 0)))] [(2,.r 1),(3,.r 0)])
 (.frz .ret))))))))))))
def r26:List RV:=[.t 2,.t 3]
theorem en26:EnP Tryz.prog 26 113 c26 r26:=mkEnP (by kernel_rfl) Tryz.func26 (by kernel_rfl) ⟨_,rfl,by kernel_rfl,by kernel_rfl⟩
theorem Gro.id {lo n:Nat} {m:Hm} {sz:Nat} {l:List V} {p k:Nat} (h:Gro lo n m sz (.sl p 0 k) l):lo≤p∧p < n:=by
  rcases h with ⟨st,_,e,_⟩ | ⟨id,h1,h2,e,_⟩
  · cases e
  · simp at e; rw [e.1]; exact ⟨h1,h2⟩
theorem add_call {H:Hp} {b lo:Nat} {v:V} {l:List Pr} (k x:Str) (hb:b < lo) (hlo:lo≤H.n) (hm:H.m b=some (.arr 1 [v])) (hg:Gro lo H.n H.m 2 v (mv prV l)) (hl:l.length≤1000000) :
    ∃ v' fp ds,ACall Tryz.prog 65 [.str k,.str x,.ptr b 0 0] H fp (.tup []) ds 1∧Gro H.n (H.n+1) (appd ds H.m) 2 v' (mv prV (l++[(k,x)]))∧appd ds H.m b=some (.arr 1 [v']) ∧
      ∀ id,id < H.n→id≠b→(∀ q,v≠.sl id 0 q)→appd ds H.m id=H.m id:=by
  rcases hg with ⟨st,h0,rfl,hst⟩ | ⟨id,h1,h2,rfl,h3⟩
  · have hl0:l=[]:=by cases l<;>simp [mv] at hst ⊢
    subst hl0
    refine ⟨.sl H.n 0 1,[b],[(b,some (.arr 1 [.sl H.n 0 1])),(H.n,some (.arr 2 [prV (k,x)]))], ?_,  .inr ⟨H.n,Nat.le_refl _,by simp,by simp [mv],by simp [appd,upd,mv]⟩, ?_,fun id hid hne hnr => ?_⟩
    · refine ena65 (by simp) (by simp [lowL,V.low]; omega) (fun id hid => ?_) (by simp) ?_
      · simp at hid; subst hid
        exact ⟨by omega,fun o ho => by rw [hm] at ho; simp at ho; subst ho; rfl⟩
      have q1:only [b] H.m b=some (.arr 1 [.fsl st 2 []]):=by simp [only,hm]
      simp (maxSteps:=1000000) (disch:=omega) only [rg,gD,simprocAttr,c65,q1]
      unfold appO
      refine ⟨⟨rfl,rfl,h0,by simp⟩, ?_⟩
      rw [x_nx]
      refine ⟨by simp only [compat_nil], ?_⟩
      simp (maxSteps:=1000000) (disch:=omega) only [rg,gD,simprocAttr,q1]
      refine fin_An (l:=[]) rfl (.inl rfl) (by simp) (fun i => .inr ?_)
      by_cases e1:i=b
      · subst e1; have:i≠H.n:=by omega
        simp [appd,upd,this,mv]
      · by_cases e2:i=H.n
        · subst e2; simp [appd,upd,e1,prV,mv]
        · simp [appd,upd,e1,e2]
    · have:b≠H.n:=by omega
      simp [appd,upd,this]
    · have:id≠H.n:=by omega
      simp [appd,upd,this,hne]
  · rw [mv_len] at *
    have hne1:b≠id:=by omega
    refine ⟨.sl H.n 0 (l.length+1),[b,id],[(b,some (.arr 1 [.sl H.n 0 (l.length+1)])),(id,none),(H.n,some (.arr 2 (mv prV (l++[(k,x)]))))], ?_,  .inr ⟨H.n,Nat.le_refl _,by simp,by simp [mv],by simp [appd,upd]⟩, ?_,fun i hid hne hnr => ?_⟩
    · refine ena65 (by simp) (by simp [lowL,V.low]; omega) (fun i hid => ?_) (by simp) ?_
      · simp at hid
        rcases hid with rfl | rfl
        · exact ⟨by omega,fun o ho => by rw [hm] at ho; simp at ho; subst ho; simp [Ob.low,lowL,V.low,h2]⟩
        · exact ⟨h2,fun o ho => by rw [h3] at ho; simp at ho; subst ho; exact lowL_closed _ (mv_closed prV_closed)⟩
      have q1:only [b,id] H.m b=some (.arr 1 [.sl id 0 l.length]):=by simp [only,hm]
      have q2:only [b,id] H.m id=some (.arr 2 (mv prV l)):=by simp [only,h3]
      simp (maxSteps:=1000000) (disch:=omega) only [rg,gD,simprocAttr,c65,q1]
      unfold appO
      simp only [q2]
      refine ⟨⟨rfl,trivial,trivial,by rw [mv_len]; exact Nat.le_refl _,by simp; omega⟩, ?_⟩
      rw [x_nx]
      refine ⟨by simp only [compat_nil], ?_⟩
      have e0:List.take l.length (mv prV l)++[V.agg [V.str k,V.str x]]=mv prV (l++[(k,x)]):=by
        rw [List.take_of_length_le (by rw [mv_len]; exact Nat.le_refl _)]; simp [mv,prV]
      rw [e0]
      simp (maxSteps:=1000000) (disch:=omega) only [rg,gD,simprocAttr,q1]
      refine fin_An (l:=[]) rfl (.inl rfl) (by simp) (fun i => ?_)
      by_cases e1:i=b
      · subst e1
        have n1:i≠H.n:=by omega
        exact .inr (by simp [appd,upd,hne1,n1,Ne.symm n1,Ne.symm hne1])
      · by_cases e2:i=id
        · subst e2
          have n1:i≠H.n:=by omega
          exact .inl (by simp [appd,upd,n1])
        · by_cases e3:i=H.n
          · subst e3; exact .inr (by simp [appd,upd,e1])
          · exact .inr (by simp [appd,upd,e1,e2,e3])
    · have:b≠H.n:=by omega
      simp [appd,upd,this,hne1,Ne.symm hne1]
    · have e1:i≠H.n:=by omega
      have e2:i≠id:=fun e => hnr _ (by rw [e])
      simp [appd,upd,e1,e2,hne]
theorem Gro.low {lo lo' n:Nat} {m:Hm} {sz:Nat} {v:V} {l:List V} (h:Gro lo' n m sz v l) (hl:lo≤lo'):Gro lo n m sz v l :=
  h.imp (fun h => h) fun ⟨i,a,b,c,d⟩ => ⟨i,Nat.le_trans hl a,b,c,d⟩
theorem Gro.not {lo n:Nat} {m:Hm} {sz:Nat} {v:V} {l:List V} (h:Gro lo n m sz v l) {i:Nat} (hi:i < lo∨n≤i) (q:Nat):v≠.sl i 0 q:=by
  rintro rfl; have:=h.id; omega
theorem add_step {H:Hp} {b lo:Nat} {v:V} {l:List Pr} {k x:Str} {Q:V→List Nat→List (Nat×Option Ob)→Nat→Prop} (hb:b < lo) (hlo:lo≤H.n) (hm:H.m b=some (.arr 1 [v])) (hg:Gro lo H.n H.m 2 v (mv prV l)) (hl:l.length≤1000000)
    (h:∀ v' fp ds,Gro H.n (H.n+1) (appd ds H.m) 2 v' (mv prV (l++[(k,x)]))→appd ds H.m b=some (.arr 1 [v'])→(∀ id,id < H.n→id≠b→(∀ q,v≠.sl id 0 q)→appd ds H.m id=H.m id)→Q (.tup []) fp ds 1) :
    ∃ fp r ds k',ACall Tryz.prog 65 [.str k,.str x,.ptr b 0 0] H fp r ds k'∧Q r fp ds k':=by
  obtain ⟨v',fp,ds,hA,h1,h2,h3⟩:=add_call k x hb hlo hm hg hl
  exact ⟨fp,_,ds,1,hA,h v' fp ds h1 h2 h3⟩
theorem rows_number (n k:Int) (hn:n≤9223372036854775807):PCall Tryz.prog 68 [.int .i64 n,.int .i64 k] (.str (putS n k).1):=by
  refine en68 (by simp) (by simp [closedL,V.closed]) ?_
  simp (maxSteps:=1000000) (disch:=omega) only [rg,gD,simprocAttr,c68]
  refine ⟨_,code_put n k hn, ?_⟩
  simp (maxSteps:=1000000) (disch:=omega) only [rg,gD,simprocAttr,sV]
  (refine fin_x rfl ?_ ?_<;>simp [pack,lo,loL,V.closed,closedL,mv_closed])
section
set_option maxRecDepth 100000
def ren_sort:Go.Shelf.Ren:=⟨fun x => match x with | 6 => 71 | 15 => 139 | 14 => 138 | 28 => 191 | 29 => 192 | 20 => 183 | 21 => 184 | 22 => 185 | 23 => 186 | 24 => 187 | 25 => 188 | 26 => 189 | 27 => 190 | 46 => 227 | 47 => 228 | 48 => 229 | 49 => 230 | 50 => 231 | 57 => 240 | n => n,fun x => match x with | 22 => 65 | 24 => 118 | 25 => 127 | 3 => 3 | 39 => 184 | 0 => 0 | 53 => 228 | 55 => 230 | 4 => 4 | 46 => 222 | 45 => 221 | 50 => 110 | 5 => 5 | 9 => 9 | 66 => 251 | 70 => 231 | 76 => 261 | 77 => 262 | n => n,fun x => match x with | n => n⟩
theorem lays_sort:SlLaysF0.n6 Tryz.prog ren_sort where
  mixed:=by kernel_rfl
  f6:=⟨"slices.SortFunc[[]penelope/api.Pair,penelope/api.Pair]",by decide,Tryz.func71.trans (congrArg some (by kernel_rfl))⟩
  f14:=⟨"slices.pdqsortCmpFunc[penelope/api.Pair]",by decide,Tryz.func138.trans (congrArg some (by kernel_rfl))⟩
  f15:=Tryz.func139.trans (congrArg some (by kernel_rfl))
  f20:=⟨"slices.insertionSortCmpFunc[penelope/api.Pair]",by decide,Tryz.func183.trans (congrArg some (by kernel_rfl))⟩
  f21:=⟨"slices.heapSortCmpFunc[penelope/api.Pair]",by decide,Tryz.func184.trans (congrArg some (by kernel_rfl))⟩
  f22:=⟨"slices.breakPatternsCmpFunc[penelope/api.Pair]",by decide,Tryz.func185.trans (congrArg some (by kernel_rfl))⟩
  f23:=⟨"slices.choosePivotCmpFunc[penelope/api.Pair]",by decide,Tryz.func186.trans (congrArg some (by kernel_rfl))⟩
  f24:=⟨"slices.reverseRangeCmpFunc[penelope/api.Pair]",by decide,Tryz.func187.trans (congrArg some (by kernel_rfl))⟩
  f25:=⟨"slices.partialInsertionSortCmpFunc[penelope/api.Pair]",by decide,Tryz.func188.trans (congrArg some (by kernel_rfl))⟩
  f26:=⟨"slices.partitionEqualCmpFunc[penelope/api.Pair]",by decide,Tryz.func189.trans (congrArg some (by kernel_rfl))⟩
  f27:=⟨"slices.partitionCmpFunc[penelope/api.Pair]",by decide,Tryz.func190.trans (congrArg some (by kernel_rfl))⟩
  f28:=Tryz.func191.trans (congrArg some (by kernel_rfl))
  f29:=Tryz.func192.trans (congrArg some (by kernel_rfl))
  f46:=⟨"slices.siftDownCmpFunc[penelope/api.Pair]",by decide,Tryz.func227.trans (congrArg some (by kernel_rfl))⟩
  f47:=Tryz.func228.trans (congrArg some (by kernel_rfl))
  f48:=Tryz.func229.trans (congrArg some (by kernel_rfl))
  f49:=⟨"slices.medianAdjacentCmpFunc[penelope/api.Pair]",by decide,Tryz.func230.trans (congrArg some (by kernel_rfl))⟩
  f50:=⟨"slices.medianCmpFunc[penelope/api.Pair]",by decide,Tryz.func231.trans (congrArg some (by kernel_rfl))⟩
  f57:=⟨"slices.order2CmpFunc[penelope/api.Pair]",by decide,Tryz.func240.trans (congrArg some (by kernel_rfl))⟩
  t0:=Tryz.underlying0
  a0:=Tryz.isAgg0
  z0:=Tryz.sizeOf0
  v0:=Tryz.zeroValue0
  t3:=Tryz.underlying3
  a3:=Tryz.isAgg3
  z3:=Tryz.sizeOf3
  v3:=Tryz.zeroValue3
  t4:=Tryz.underlying4
  a4:=Tryz.isAgg4
  z4:=Tryz.sizeOf4
  v4:=Tryz.zeroValue4
  t5:=Tryz.underlying5
  a5:=Tryz.isAgg5
  z5:=Tryz.sizeOf5
  v5:=Tryz.zeroValue5
  t9:=Tryz.underlying9
  a9:=Tryz.isAgg9
  z9:=Tryz.sizeOf9
  v9:=Tryz.zeroValue9
  t22:=Tryz.underlying65
  a22:=Tryz.isAgg65
  z22:=Tryz.sizeOf65
  v22:=Tryz.zeroValue65
  t25:=Tryz.underlying127
  a25:=Tryz.isAgg127
  z25:=Tryz.sizeOf127
  v25:=Tryz.zeroValue127
  t39:=Tryz.underlying184
  a39:=Tryz.isAgg184
  z39:=Tryz.sizeOf184
  v39:=Tryz.zeroValue184
  t45:=Tryz.underlying221
  a45:=Tryz.isAgg221
  z45:=Tryz.sizeOf221
  v45:=Tryz.zeroValue221
  t46:=Tryz.underlying222
  a46:=Tryz.isAgg222
  z46:=Tryz.sizeOf222
  v46:=Tryz.zeroValue222
  t50:=Tryz.underlying110
  a50:=Tryz.isAgg110
  z50:=Tryz.sizeOf110
  v50:=Tryz.zeroValue110
  t53:=Tryz.underlying228
  a53:=Tryz.isAgg228
  z53:=Tryz.sizeOf228
  v53:=Tryz.zeroValue228
  t55:=Tryz.underlying230
  a55:=Tryz.isAgg230
  z55:=Tryz.sizeOf230
  v55:=Tryz.zeroValue230
  t66:=Tryz.underlying251
  a66:=Tryz.isAgg251
  z66:=Tryz.sizeOf251
  v66:=Tryz.zeroValue251
  t70:=Tryz.underlying231
  a70:=Tryz.isAgg231
  z70:=Tryz.sizeOf231
  v70:=Tryz.zeroValue231
  t76:=Tryz.underlying261
  a76:=Tryz.isAgg261
  z76:=Tryz.sizeOf261
  v76:=Tryz.zeroValue261
  t77:=Tryz.underlying262
  a77:=Tryz.isAgg262
  z77:=Tryz.sizeOf262
  v77:=Tryz.zeroValue262
def ren_cmp:Go.Shelf.Ren:=⟨fun x => match x with | 106 => 73 | 213 => 140 | 265 => 193 | n => n,fun x => match x with | 9 => 9 | 3 => 3 | n => n,fun x => match x with | n => n⟩
theorem lays_cmp:Lays.n106 Tryz.prog ren_cmp where
  mixed:=by kernel_rfl
  f106:=Tryz.func73.trans (congrArg some (by kernel_rfl))
  f213:=Tryz.func140.trans (congrArg some (by kernel_rfl))
  f265:=Tryz.func193.trans (congrArg some (by kernel_rfl))
  t3:=Tryz.underlying3
  a3:=Tryz.isAgg3
  z3:=Tryz.sizeOf3
  v3:=Tryz.zeroValue3
  t9:=Tryz.underlying9
  a9:=Tryz.isAgg9
  z9:=Tryz.sizeOf9
  v9:=Tryz.zeroValue9
end
section
open Go Go.Sort Go.Shelf Go.RowKit
set_option maxHeartbeats 1000000 in
theorem cmp_clo (x y:Pr) (W:World):Calls Tryz.prog 72 #[.agg (encP x).toArray,.agg (encP y).toArray] W fun e w' => e=.returned (.int .i64 (cmpP x y))∧∃ q os',w'=grow (W.drewN q) os':=by
  obtain ⟨x1,x2⟩:=x
  obtain ⟨y1,y2⟩:=y
  have hcon:=fun W' => Any.strings_Compare lays_cmp ⟨x1.toArray⟩ ⟨y1.toArray⟩ W'
  change ∀ W',Calls Tryz.prog 73 _ _ _ at hcon
  have e:cmpP (x1,x2) (y1,y2)=Lib.compareBytes x1 y1:=rfl
  simp only [] at hcon
  rw [e]
  generalize Lib.compareBytes x1 y1=r at hcon ⊢
  simp only [encP]
  go_enter Tryz.func72,Tryz.ntmps72
  go_wp2_with (go_at_call 73; refine (hcon _).mono ?_; rintro e w' ⟨rfl,rfl⟩)
  go_ret
  exact ⟨rfl,0,_,by rw [alloc_eq_grow,alloc_eq_grow,grow_grow]; rfl⟩
theorem sort_has:HasBody Tryz.prog 71:=⟨_,Tryz.func71,by kernel_rfl,by kernel_rfl⟩
theorem cmp_enters:∀ args w,(callFunc 72 args).run Tryz.prog w=.ok (.enter 72 args) w:=enters_of Tryz.func72 (by kernel_rfl) rfl
theorem rows_sort {H:Hp} {id:Nat} {l:List Pr} (hm:H.m id=some (.arr 2 (mv prV l))) (hne:l≠[]) (hl:l.length < 4611686018427387904) :
    ACall Tryz.prog 71 [.sl id 0 l.length,.fn 72 [] []] H [id] (.tup []) [(id,some (.arr 2 (mv prV (sortP cmpP l))))] 0 :=
  sort_acall lays_sort (Tryz.isAgg118) (Tryz.sizeOf118) sort_has cmpP_swo cmp_enters cmp_clo hm hne hl
theorem rows_sort0 (st:St) (H:Hp) (f:V):ACall Tryz.prog 71 [.fsl st 2 [],f] H [] (.tup []) [] 0:=(sort_none lays_sort sort_has f st).toA H []
theorem rows_sort1 (ii:Nat) (H:Hp) (f:V):ACall Tryz.prog 71 [.sl ii 0 0,f] H [] (.tup []) [] 0:=sort_none_sl lays_sort sort_has f ii H
end
theorem rise_nodup {l:List Str} (h:Rise l):l.Nodup:=by
  refine List.pairwise_iff_getElem.2 fun i j hi hj hij => ?_
  exact lt_ne (rise_lt h j i hj hij)
theorem keysP_app (a b:List Pr):keysP (a++b)=keysP a++keysP b:=by simp [keysP]
theorem runs_disj {r r':Rn} (hs:r.states.length≤200) (hs':r'.states.length≤200) {k:Str} (h:k∈keysP (runPrs r)) (h':k∈keysP (runPrs r')):r.key=r'.key:=by
  rcases (runPrs_keys hs).2 k h with rfl | ⟨i,hi,rfl⟩<;>rcases (runPrs_keys hs').2 _ h' with e | ⟨j,hj,e⟩
  · simpa using e
  · simp at e
  · simp at e
  · have hl:=congrArg List.length e
    simp only [List.length_append,put1_len (show i < 256 by omega),put1_len (show j < 256 by omega),List.length_singleton] at hl
    rw [List.append_assoc,List.append_assoc] at e
    have e2:=List.append_cancel_left e
    exact (List.append_inj e2 (by omega)).1
theorem runs_keys:∀ {l:List Rn},(runsN l).Nodup→(∀ r∈l,r.states.length≤200)→(keysP (runsPr l)).Nodup∧∀ k∈keysP (runsPr l),∃ r∈l,k∈keysP (runPrs r)
  | [],_,_ => by simp [runsPr,keysP]
  | r::l,hn,hs => by
    simp only [runsN,List.map_cons,List.nodup_cons] at hn
    obtain ⟨i1,i2⟩:=runs_keys (l:=l) hn.2 (fun x hx => hs x (by simp [hx]))
    have e:runsPr (r::l)=runPrs r++runsPr l:=by simp [runsPr]
    rw [e,keysP_app]
    refine ⟨List.nodup_append.2 ⟨(runPrs_keys (hs r (by simp))).1,i1,fun k hk k' hk' e => ?_⟩,fun k hk => ?_⟩
    · subst e
      obtain ⟨r',hr',hk2⟩:=i2 k hk'
      have:=runs_disj (hs r (by simp)) (hs r' (by simp [hr'])) hk hk2
      exact hn.1 (List.mem_map.2 ⟨r',hr',this.symm⟩)
    · rcases List.mem_append.1 hk with hk | hk
      · exact ⟨r,by simp,hk⟩
      · obtain ⟨r',hr',h⟩:=i2 k hk; exact ⟨r',by simp [hr'],h⟩
theorem runs_first {l:List Rn} {k:Str} (hs:∀ r∈l,r.states.length≤200) (hn:(runsN l).Nodup) (h:k∈keysP (runsPr l)):∃ t,k=114::t∨k=116::t:=by
  obtain ⟨r,hr,hk⟩:=(runs_keys hn hs).2 k h
  rcases (runPrs_keys (hs r hr)).2 k hk with rfl | ⟨i,_,rfl⟩
  · exact ⟨_,.inl rfl⟩
  · exact ⟨r.key++(putS (i:Int) 1).1,.inr (by simp)⟩
theorem WR.few {w:Wd} (h:WR w):∀ r∈w.runs,r.states.length≤10:=fun r hr => by
  have h2:=(h.runs r hr).2
  rw [h2.len]; exact (dag_okn h2.dag).1
theorem rows_nodup {w:Wd} (h:WR w):(keysP (rowsL w)).Nodup:=by
  have hs:∀ r∈w.runs,r.states.length≤200:=fun r hr => by have:=h.few r hr; omega
  have hn:=rise_nodup h.rruns
  have hd:(keysP (w.dags.map dagPr)).Nodup:=by
    have:=rise_nodup h.rdags
    simp only [dagsN] at this
    simp only [keysP,List.map_map,List.Nodup,List.pairwise_map] at this ⊢
    exact this.imp fun {a b} h e => h (by simpa [Function.comp,dagPr] using e)
  have hd1:∀ k∈keysP (w.dags.map dagPr),∃ t,k=100::t:=fun k hk => by
    simp only [keysP,List.map_map,List.mem_map,Function.comp] at hk
    obtain ⟨d,_,rfl⟩:=hk
    exact ⟨d.name,by simp [dagPr]⟩
  have hm:(keysP (metaPr w)).Nodup∧∀ k∈keysP (metaPr w),k=[109]:=by
    unfold metaPr; split<;>simp [keysP]
  unfold rowsL
  rw [keysP_app,keysP_app]
  refine List.nodup_append.2 ⟨hd,List.nodup_append.2 ⟨hm.1,(runs_keys hn hs).1,fun k hk k' hk' e => ?_⟩,fun k hk k' hk' e => ?_⟩
  · subst e
    obtain ⟨t,h1 | h1⟩:=runs_first hs hn hk'<;>rw [hm.2 k hk] at h1<;>simp at h1
  · subst e
    obtain ⟨t,rfl⟩:=hd1 k hk
    rcases List.mem_append.1 hk' with h1 | h1
    · have:=hm.2 _ h1; simp at this
    · obtain ⟨u,h2 | h2⟩:=runs_first hs hn h1<;>simp at h2
theorem rows_ok {w:Wd} (h:WR w):Srt (rowsS w)∧(rowsS w).Perm (rowsL w):=by
  have hp:=rowsL_perm w
  obtain ⟨h1,h2⟩:=puts_ok (l0:=[]) (l:=metaPr w++(w.dags.map dagPr++runsPr w.runs)) List.Pairwise.nil (by
    rw [List.nil_append]; exact ((hp.map _).nodup_iff).2 (rows_nodup h))
  exact ⟨h1,h2.trans (by rw [List.nil_append]; exact hp)⟩
def noDag (d:Dag):Prop:=d.name=[]∧d.tasks.length=0
instance (d:Dag):Decidable (noDag d):=by unfold noDag; infer_instance
def bareP (c:Cmd):Prop :=
  if c.kind=1 then c.key=[]∧c.name=[]∧c.token=0∧c.time=0∧c.text=[]
  else if c.kind=2 then c.token=0∧c.time=0∧c.text=[]∧noDag c.dag
  else if c.kind=4∨c.kind=6 then c.key=[]∧c.name=[]∧c.time=0∧c.text=[]∧noDag c.dag
  else if c.kind=5 then c.key=[]∧c.name=[]∧c.time=0∧noDag c.dag
  else if c.kind=7∨c.kind=9 then c.name=[]∧c.token=0∧c.time=0∧c.text=[]∧noDag c.dag
  else if c.kind=8 then c.key=[]∧c.name=[]∧c.token=0∧c.text=[]∧noDag c.dag
  else c.key=[]∧c.name=[]∧c.token=0∧c.time=0∧c.text=[]∧noDag c.dag
instance (c:Cmd):Decidable (bareP c):=by unfold bareP; infer_instance
def fitP (c:Cmd):Prop:=c.key.length≤255∧c.name.length≤255∧c.text.length≤255∧0≤c.token∧c.token < 281474976710656∧0≤c.time∧c.time < 281474976710656
instance (c:Cmd):Decidable (fitP c):=by unfold fitP; infer_instance
def cmdP (c:Cmd):Prop:=1≤c.kind∧c.kind≤10∧bareP c∧fitP c∧(c.kind=1→refRightS c.dag=0)
instance (c:Cmd):Decidable (cmdP c):=by unfold cmdP; infer_instance
theorem dag_put1 (H:Hp) (b:Nat) (out:Str) (n k:Int) (hr:out.length≤1000000000) (hn:n≤9223372036854775807) (hb:b < H.n) (hm:H.m b=some (.arr 1 [.str out])) :
    ACall Tryz.prog 135 [.int .i64 n,.int .i64 k,.ptr b 0 0] H [b] (.tup []) [(b,some (.arr 1 [.str (out++(putS n k).1)]))] 0:=by
  refine ena135 (by simp) (by simp [lowL,V.low,hb]) (fun id hid => ?_) (by simp) ?_
  · simp at hid; subst hid
    exact ⟨hb,fun o ho => by rw [hm] at ho; simp at ho; subst ho; rfl⟩
  have q1:only [b] H.m b=some (.arr 1 [.str out]):=by simp [only,hm]
  have hpl:=putS_len n k
  simp (maxSteps:=1000000) (disch:=omega) only [rg,gD,simprocAttr,c135]
  refine ⟨_,code_put n k hn, ?_⟩
  simp (maxSteps:=1000000) (disch:=omega) only [rg,gD,simprocAttr,sV,q1]
  refine ⟨_,code_all .full [out,(putS n k).1] (by simp) (by simp at hr ⊢; omega), ?_⟩
  rw [two_flat]
  simp (maxSteps:=1000000) (disch:=omega) only [rg,gD,simprocAttr,q1]
  exact fin_An (l:=[]) rfl (.inl rfl) (by simp) (fun id => .inr (by by_cases h:id=b<;>simp [appd,upd,h]))
def okInt (n:Int):Prop:=n≤9223372036854775807
def okDagN (d:Dag):Prop:=∀ t∈d.tasks,(∀ x∈t.needs,okInt x)∧okInt t.tries∧okInt t.wait∧okInt t.lease
theorem dag_put (d:Dag) (hd:∀ t∈d.tasks,t.needs.length≤4611686018427387904) (hn:d.tasks.length≤4611686018427387904) (hi:okDagN d):PCall Tryz.prog 66 [dagV d] (sV (dagPutS d)):=by
  refine en66 (by simp) (by simp [closedL,V.closed,dagV_closed]) ?_
  have kr:=dag_right d hd hn
  rw [← right_same] at kr
  unfold dagV tasksV at kr
  simp (maxSteps:=1000000) (disch:=omega) only [rg,gD,simprocAttr,c66,dagV,tasksV]
  refine ⟨_,kr, ?_⟩
  by_cases c0:refRightS d=0
  case neg =>
    simp (maxSteps:=1000000) (disch:=omega) only [rg,gD,simprocAttr,c0]
    (refine fin_x rfl ?_ ?_<;>simp [pack,lo,loL,V.closed,closedL,mv_closed,sV,dagPutS,c0])
  obtain ⟨hfit,h10,h16,h1,hneeds⟩:=right_fit c0
  simp (maxSteps:=1000000) (disch:=omega) only [rg,gD,simprocAttr,c0]
  refine ⟨_,code_text d.name (by omega), ?_⟩
  have tl:=textS_len d.name
  have n1:=putS_len1 d.tasks.length
  simp (maxSteps:=1000000) (disch:=omega) only [rg,gD,simprocAttr,sV]
  refine ⟨_,_,_,_,dag_put1 _ 1 (textS d.name).1 d.tasks.length 1 (by omega) (by omega) (by simp) (by simp (disch:=omega) only [upd_eq,upd_ne,wo_0,wo_1,wo_2]), ?_⟩
  simp (maxSteps:=1000000) (disch:=omega) only [rg,gD,simprocAttr]
  have hD:dagPutS d=(((textS d.name).1++(putS d.tasks.length 1).1)++tsksB d.tasks,0):=by simp [dagPutS,c0,dagB]
  rw [hD]
  generalize hB:(textS d.name).1++(putS d.tasks.length 1).1=B
  have hBl:B.length≤100:=by rw [← hB]; simp; omega
  refine x_it d.tasks.length (fun i σ H => 2≤H.n∧H.m 1=some (.arr 1 [.str (B++tsksB (d.tasks.take i))])∧σ=[(5,.ptr 1 0 0),(7,.fn 135 [] [.ptr 1 0 0]),(30,tasksV d.tasks),(31,.int .i64 d.tasks.length),(32,.int .i64 i)]) ⟨Nat.le_refl 2,(by simp (disch:=omega) only [upd_eq,upd_ne,wo_0,wo_1,wo_2,tsksB,List.take_zero,List.map_nil,List.flatten_nil,List.append_nil]),rfl⟩ ?_
  rintro T i σ ⟨q,m⟩ hi' ⟨hq,e1,rfl⟩ hN hX hR
  simp only at hq e1
  simp (maxSteps:=1000000) (disch:=omega) only [rg,gD,simprocAttr,tasksV]
  refine ⟨fun h => ?_,fun h => ?_⟩
  · have i1:i < d.tasks.length:=by omega
    obtain ⟨g1,g2,g3,g4⟩:=hi _ (List.getElem_mem i1)
    have hnl:=hneeds _ (List.getElem_mem i1)
    have hq1:1≠q:=by omega
    have hsl:=tsksB_len (l:=d.tasks.take i) (N:=10) (fun t ht => hneeds t (List.mem_of_mem_take ht))
    rw [List.length_take] at hsl
    rw [tsksB_succ i1] at hN
    generalize tsksB (d.tasks.take i)=out at *
    have hol:(B++out).length≤1000:=by simp; omega
    simp (maxSteps:=1000000) (disch:=omega) only [rg,gD,simprocAttr,taskV,vI_len]
    generalize d.tasks[i]=t at *
    refine ⟨_,_,_,_,dag_put1 _ 1 (B++out) t.needs.length 1 (by omega) (by omega) (by show 1 < q+1; omega) (by simp (disch:=omega) only [upd_eq,upd_ne,wo_0,wo_1,wo_2,e1]), ?_⟩
    have m1:=putS_len1 t.needs.length
    simp (maxSteps:=1000000) (disch:=omega) only [rg,gD,simprocAttr,vI_len]
    refine x_it t.needs.length (fun j σ H => q+1≤H.n∧H.m q=some (.arr 4 [taskV t])∧H.m 1=some (.arr 1 [.str (((B++out)++(putS t.needs.length 1).1)++intsB (t.needs.take j))])∧σ=[(5,.ptr 1 0 0),(7,.fn 135 [] [.ptr 1 0 0]),(9,.ptr q 0 0),(30,tasksV d.tasks),(31,.int .i64 d.tasks.length),(32,.int .i64 i),(42,.fsl .loose 1 (vI t.needs)),(43,.int .i64 t.needs.length),(44,.int .i64 j)]) ⟨Nat.le_refl _,(by simp (disch:=omega) only [upd_eq,upd_ne,wo_0,wo_1,wo_2,taskV]),(by simp (disch:=omega) only [upd_eq,upd_ne,wo_0,wo_1,wo_2,intsB,List.take_zero,List.map_nil,List.flatten_nil,List.append_nil]),rfl⟩ ?_
    rintro T2 j σ ⟨q2,m2⟩ hj ⟨hq2,f0,f1,rfl⟩ hN2 hX2 hR2
    simp only at hq2 f0 f1
    unfold taskV at f0
    have hil:=intsB_len (t.needs.take j)
    rw [List.length_take] at hil
    have hol2:(((B++out)++(putS t.needs.length 1).1)++intsB (t.needs.take j)).length≤1020:=by rw [List.length_append,List.length_append]; omega
    simp (maxSteps:=1000000) (disch:=omega) only [rg,gD,simprocAttr]
    refine ⟨fun h => ?_,fun h => ?_⟩
    · have j1:j < t.needs.length:=by omega
      rw [intsB_succ j1] at hN2
      generalize intsB (t.needs.take j)=o2 at *
      simp (maxSteps:=1000000) (disch:=omega) only [rg,gD,simprocAttr,vI_get]
      refine ⟨_,_,_,_,dag_put1 _ 1 (((B++out)++(putS t.needs.length 1).1)++o2) t.needs[j] 1 (by omega) (g1 _ (List.getElem_mem j1)) (by show 1 < q2; omega) (by simp (disch:=omega) only [upd_eq,upd_ne,wo_0,wo_1,wo_2,f1]), ?_⟩
      simp (maxSteps:=1000000) (disch:=omega) only [rg,gD,simprocAttr]
      refine hN2 _ _ j1 ?_
      refine ⟨hq2,(by simp (disch:=omega) only [upd_eq,upd_ne,wo_0,wo_1,wo_2,f0,taskV]),(by simp (disch:=omega) only [upd_eq,upd_ne,wo_0,wo_1,wo_2,List.append_assoc]),rfl⟩
    · obtain rfl:j=t.needs.length:=by omega
      rw [List.take_length] at f1 hol2
      refine hX2 _ _ _ ?_
      simp (maxSteps:=1000000) (disch:=omega) only [rg,gD,simprocAttr]
      refine x_frz0 ?_
      have k3:=putS_len1 t.tries
      have k4:=putS_len3 t.wait
      generalize hO:((B++out)++(putS t.needs.length 1).1)++intsB t.needs=O at f1 hol2
      simp (maxSteps:=1000000) (disch:=omega) only [rg,gD,simprocAttr,f0]
      refine ⟨_,_,_,_,dag_put1 _ 1 O t.tries 1 (by omega) g2 (by show 1 < q2; omega) (by simp (disch:=omega) only [upd_eq,upd_ne,wo_0,wo_1,wo_2,f1]), ?_⟩
      simp (maxSteps:=1000000) (disch:=omega) only [rg,gD,simprocAttr,f0]
      refine ⟨_,_,_,_,dag_put1 _ 1 (O++(putS t.tries 1).1) t.wait 3 (by rw [List.length_append]; omega) g3 (by show 1 < q2; omega) (by simp (disch:=omega) only [upd_eq,upd_ne,wo_0,wo_1,wo_2]), ?_⟩
      simp (maxSteps:=1000000) (disch:=omega) only [rg,gD,simprocAttr,f0]
      refine ⟨_,_,_,_,dag_put1 _ 1 ((O++(putS t.tries 1).1)++(putS t.wait 3).1) t.lease 3 (by rw [List.length_append,List.length_append]; omega) g4 (by show 1 < q2; omega) (by simp (disch:=omega) only [upd_eq,upd_ne,wo_0,wo_1,wo_2]), ?_⟩
      simp (maxSteps:=1000000) (disch:=omega) only [rg,gD,simprocAttr]
      refine x_frz0 ?_
      simp (maxSteps:=1000000) (disch:=omega) only [rg,gD,simprocAttr]
      refine hN _ _ i1 ?_
      refine ⟨by show 2≤q2; omega, ?_,rfl⟩
      simp only [upd_eq]
      rw [← hO]
      simp only [tskB,List.append_assoc]
  · obtain rfl:i=d.tasks.length:=by omega
    rw [List.take_length] at e1
    refine hX _ _ _ ?_
    simp (maxSteps:=1000000) (disch:=omega) only [rg,gD,simprocAttr]
    refine x_frz0 ?_
    simp (maxSteps:=1000000) (disch:=omega) only [rg,gD,simprocAttr,e1]
    (refine fin_x rfl ?_ ?_<;>simp [pack,lo,loL,V.closed,closedL,mv_closed,sV])
section
theorem sttsPr_succ (r:Rn) (i:Nat) (hi:i < r.states.length):sttsPr r (i+1)=sttsPr r i++[sttPr r i r.states[i]]:=by
  simp [sttsPr,List.range_succ,List.map_append,hi]
theorem sttsPr_len (r:Rn) (i:Nat):(sttsPr r i).length=i:=by simp [sttsPr]
theorem runsPr_take {l:List Rn} {j:Nat} (h:j < l.length):runsPr (l.take (j+1))=runsPr (l.take j)++runPrs l[j]:=by
  rw [List.take_succ_eq_append_getElem h,runsPr,List.flatMap_append,List.flatMap_singleton]; rfl
theorem runsPr_len:∀ {l:List Rn},(∀ r∈l,r.states.length≤10)→(runsPr l).length≤l.length*11
  | [],_ => by simp [runsPr]
  | r::l,h => by
    have:=runsPr_len (l:=l) fun x hx => h x (by simp [hx])
    have h0:=h r (by simp)
    have e:runsPr (r::l)=runPrs r++runsPr l:=by simp [runsPr]
    rw [e,List.length_append,runPrs,List.length_cons,sttsPr_len,List.length_cons]; omega
theorem dags_take {l:List Dag} {j:Nat} (h:j < l.length):(l.take (j+1)).map dagPr=(l.take j).map dagPr++[dagPr l[j]]:=by
  rw [List.take_succ_eq_append_getElem h,List.map_append]; rfl
theorem i64_of (s:Stt) (h:standsS s=true):i64S s:=by
  have:=(standsS_iff _).1 h
  unfold i64S; unfold MT at this; omega
theorem setC_dag0 (d:Dag):setC (some 2) 0 (V.agg [V.str [],V.fsl .nil 4 []]) (dagV d)=some (dagV d):=rfl
theorem getC_wnow (w:Wd):getC none 0 (wdV w)=some (.int .i64 w.now):=rfl
theorem getC_wtok (w:Wd):getC none 1 (wdV w)=some (.int .i64 w.token):=rfl
theorem getC_wrs2 (w:Wd):getC none 3 (wdV w)=some (.fsl .loose 5 (mv rnV w.runs)):=rfl
theorem getC_wd2 (w:Wd):getC none 2 (wdV w)=some (.fsl .loose 2 (mv dagV w.dags)):=rfl
theorem put_fits {n k:Int} (h:(putS n k).2=0):n≤9223372036854775807:=by
  unfold putS at h
  split at h
  · cases h
  · rename_i c
    have hk:k.toNat≤6:=by omega
    have h1:(256:Int) ^ k.toNat≤256 ^ 6:=by
      have:=Nat.pow_le_pow_right (n:=256) (by decide) hk
      exact_mod_cast this
    have h2:(256:Int) ^ 6=281474976710656:=by decide
    omega
theorem dag_N {d:Dag} (h:dagRightS d=0):okDagN d:=by
  rw [← right_same] at h
  obtain ⟨⟨_,_,hf⟩,_⟩:=right_fit h
  intro t ht
  obtain ⟨_,f2,f3,f4,f5⟩:=hf t ht
  exact ⟨fun x hx => put_fits (f2 x hx),put_fits f3,put_fits f4,put_fits f5⟩
theorem dag_pr {d:Dag} (h:dagRightS d=0):dagPutS d=(dagB d,0):=by
  unfold dagPutS; rw [right_same,if_pos h]
theorem dag_nl {d:Dag} (h:dagRightS d=0):d.name.length≤16:=by
  rw [← right_same] at h
  exact (right_fit h).2.2.1
open Classical in
set_option maxHeartbeats 2000000 in
theorem rows_rows (w:Wd) (ok:WdM w):PCall Tryz.prog 26 [wdV w] (.tup [prsV (if WR w then rowsS w else []),.int .i64 (if WR w then 0 else 1)]):=by
  refine en26 (by simp) (by simp [closedL,wdV_closed]) ?_
  have hwr:=world_right w ok.ok
  by_cases hw:WR w
  case neg =>
    rw [decide_eq_false hw] at hwr
    simp (maxSteps:=1000000) (disch:=omega) only [rg,gD,simprocAttr,c26,getC_wd]
    refine ⟨⟨rfl,rfl⟩,_,hwr, ?_⟩
    simp (maxSteps:=1000000) (disch:=omega) only [rg,gD,simprocAttr]
    refine x_frz0 ?_
    simp (maxSteps:=1000000) (disch:=omega) only [rg,gD,simprocAttr]
    (refine fin_x rfl ?_ ?_<;>simp [pack,lo,loL,V.closed,closedL,mv_closed,hw,prsV,mv_nil])
  rw [decide_eq_true hw] at hwr
  have hnd:=hw.ndags
  have hnr:=hw.nruns
  have hfew:=hw.few
  have hL:rowsL w=w.dags.map dagPr++(metaPr w++runsPr w.runs):=rfl
  have hML:(metaPr w).length≤1:=by unfold metaPr; split<;>simp
  have hRL:=runsPr_len hfew
  simp (maxSteps:=1000000) (disch:=omega) only [rg,gD,simprocAttr,c26,getC_wd]
  refine ⟨⟨rfl,rfl⟩,_,hwr, ?_⟩
  simp (maxSteps:=1000000) (disch:=omega) only [rg,gD,simprocAttr,getC_wd2,mv_len]
  refine x_it w.dags.length (fun i σ H => 2≤H.n∧H.m 0=some (.arr 4 [wdV w])∧(∃ v,H.m 1=some (.arr 1 [v])∧Gro 2 H.n H.m 2 v (mv prV ((w.dags.take i).map dagPr))) ∧
    σ=[(1,.ptr 0 0 0),(4,.ptr 1 0 0),(5,.fn 65 [] [.ptr 1 0 0]),(23,.fsl .loose 2 (mv dagV w.dags)),(24,.int .i64 (w.dags.length:Int)),(25,.int .i64 (i:Int))]) ⟨Nat.le_refl 2,(by simp (disch:=omega) only [upd_eq,upd_ne,wo_0,wo_1,wo_2]),⟨_,(by simp (disch:=omega) only [upd_eq,upd_ne,wo_0,wo_1,wo_2]),.nil⟩,rfl⟩ ?_
  rintro T i σ ⟨n,m⟩ hii ⟨hn,e0,⟨v,e1,hg⟩,rfl⟩ hN hX hR
  simp only at hn e0 e1 hg
  by_cases hi:i < w.dags.length
  · have hdm:=hw.dags _ (List.getElem_mem hi)
    have okd:=ok.ok.dag _ (List.getElem_mem hi)
    have hpd:=dag_put w.dags[i] okd.2 okd.1 (dag_N hdm)
    rw [dag_pr hdm] at hpd
    have hnl:=dag_nl hdm
    simp only [sV] at hpd
    obtain ⟨d,hd⟩:∃ d,d=w.dags[i]:=⟨_,rfl⟩
    have htk:=dags_take hi
    rw [← hd] at hpd htk hdm hnl
    have n0:(0:Nat)≠n:=by omega
    have n1:(1:Nat)≠n:=by omega
    simp (maxSteps:=1000000) (disch:=omega) only [rg,gD,simprocAttr,show (i:Int) < w.dags.length by omega,mv_get hi,← hd,Int.toNat_natCast,getC_dags,setC_dag0]
    refine ⟨_,hpd, ?_⟩
    simp (maxSteps:=1000000) (disch:=omega) only [rg,gD,simprocAttr,dagV]
    refine ⟨_,code_all .full [[100],d.name] (by simp) (by simp<;>omega), ?_⟩
    rw [two_flat]
    simp (maxSteps:=1000000) (disch:=omega) only [rg,gD,simprocAttr]
    refine add_step (lo:=2) (v:=v) (l:=(w.dags.take i).map dagPr) (by decide) (by simp only []; omega) (by simp (disch:=omega) only [upd_eq,upd_ne,wo_0,wo_1,wo_2,e1]) (hg.keep (by simp only []; omega) (fun id h1 h2 => by simp (disch:=omega) only [upd_ne])) (by simp; omega) fun v' fp ds hG hB hO => ?_
    have o0:=hO 0 (by simp only []; omega) (by omega) (hg.not (by omega))
    simp (disch:=omega) only [upd_ne,upd_eq,e0] at o0
    simp (maxSteps:=1000000) (disch:=omega) only [rg,gD,simprocAttr]
    have hG2:Gro 2 (n+1+1) _ 2 v' (mv prV ((w.dags.take (i+1)).map dagPr)):=htk ▸ hG.low (by simp only []; omega)
    exact hN _ _ hi ⟨by show 2≤n+2; omega,o0,⟨v',hB,hG2⟩,rfl⟩
  · obtain rfl:i=w.dags.length:=by omega
    rw [List.take_length] at hg
    simp (maxSteps:=1000000) (disch:=omega) only [rg,gD,simprocAttr,show ¬ (w.dags.length:Int) < w.dags.length by omega]
    refine hX _ _ _ ?_
    simp (maxSteps:=1000000) (disch:=omega) only [rg,gD,simprocAttr]
    refine x_frz0 ?_
    clear hN hX hR
    obtain ⟨M,hMd⟩:∃ M:Sg→Hp→Prop,∀ σ' H',M σ' H'↔(2≤H'.n∧H'.m 0=some (.arr 4 [wdV w])∧(∃ v,H'.m 1=some (.arr 1 [v])∧Gro 2 H'.n H'.m 2 v (mv prV (w.dags.map dagPr++metaPr w))) ∧
      find 1 σ'=some (.ptr 0 0 0)∧find 4 σ'=some (.ptr 1 0 0)∧find 5 σ'=some (.fn 65 [] [.ptr 1 0 0])):=⟨_,fun _ _ => Iff.rfl⟩
    refine ⟨M, ?_, ?_⟩
    · by_cases c:0 < w.now∨0 < w.token
      · have hmeta:metaPr w=[([109],(putS w.now 6).1++(putS w.token 6).1)]:=by unfold metaPr; rw [if_pos c]
        have t1:=hw.now.2
        have t2:=hw.token.2
        unfold MT at t1 t2
        have p1:=putS_len w.now 6
        have p2:=putS_len w.token 6
        by_cases c1:0 < w.now
        · simp (maxSteps:=1000000) (disch:=omega) only [rg,gD,simprocAttr,e0,getC_wnow,getC_wtok,c1]
          refine ⟨_,rows_number w.now 6 (by omega), ?_⟩
          simp (maxSteps:=1000000) (disch:=omega) only [rg,gD,simprocAttr,e0,getC_wtok]
          refine ⟨_,rows_number w.token 6 (by omega), ?_⟩
          simp (maxSteps:=1000000) (disch:=omega) only [rg,gD,simprocAttr]
          refine ⟨_,code_all .full [(putS w.now 6).1,(putS w.token 6).1] (by simp) (by simp<;>omega), ?_⟩
          rw [two_flat]
          simp (maxSteps:=1000000) (disch:=omega) only [rg,gD,simprocAttr]
          refine add_step (lo:=2) (v:=v) (l:=w.dags.map dagPr) (by decide) hn e1 hg (by simp; omega) fun v' fp ds hG hB hO => ?_
          have o0:=(hO 0 (by show 0 < n; omega) (by omega) (hg.not (by omega))).trans e0
          simp (maxSteps:=1000000) (disch:=omega) only [rg,gD,simprocAttr]
          exact (hMd _ _).2 ⟨by show 2≤n+1; omega,o0,⟨v',hB,by rw [hmeta]; exact hG.low hn⟩,rfl,rfl,rfl⟩
        · have c2:0 < w.token:=c.resolve_left c1
          simp (maxSteps:=1000000) (disch:=omega) only [rg,gD,simprocAttr,e0,getC_wnow,getC_wtok,c1,c2]
          refine ⟨_,rows_number w.now 6 (by omega), ?_⟩
          simp (maxSteps:=1000000) (disch:=omega) only [rg,gD,simprocAttr,e0,getC_wtok]
          refine ⟨_,rows_number w.token 6 (by omega), ?_⟩
          simp (maxSteps:=1000000) (disch:=omega) only [rg,gD,simprocAttr]
          refine ⟨_,code_all .full [(putS w.now 6).1,(putS w.token 6).1] (by simp) (by simp<;>omega), ?_⟩
          rw [two_flat]
          simp (maxSteps:=1000000) (disch:=omega) only [rg,gD,simprocAttr]
          refine add_step (lo:=2) (v:=v) (l:=w.dags.map dagPr) (by decide) hn e1 hg (by simp; omega) fun v' fp ds hG hB hO => ?_
          have o0:=(hO 0 (by show 0 < n; omega) (by omega) (hg.not (by omega))).trans e0
          simp (maxSteps:=1000000) (disch:=omega) only [rg,gD,simprocAttr]
          exact (hMd _ _).2 ⟨by show 2≤n+1; omega,o0,⟨v',hB,by rw [hmeta]; exact hG.low hn⟩,rfl,rfl,rfl⟩
      · have hmeta:metaPr w=[]:=by unfold metaPr; rw [if_neg c]
        have c1:¬ 0 < w.now:=fun h => c (.inl h)
        have c2:¬ 0 < w.token:=fun h => c (.inr h)
        simp (maxSteps:=1000000) (disch:=omega) only [rg,gD,simprocAttr,e0,getC_wnow,getC_wtok,c1,c2]
        exact (hMd _ _).2 ⟨hn,e0,⟨v,e1,by rw [hmeta,List.append_nil]; exact hg⟩,rfl,rfl,rfl⟩
    · rintro σ' ⟨n',m'⟩ hm
      obtain ⟨hn',f0,⟨v',f1,hg'⟩,s1,s4,s5⟩:=(hMd _ _).1 hm
      simp only at hn' f0 f1 hg'
      clear hm hMd M e0 e1 hg
      simp (maxSteps:=1000000) (disch:=omega) only [rg,gD,simprocAttr,s1,s4,s5,f0,getC_wrs2,mv_len]
      have hB0:(w.dags.map dagPr++metaPr w).length≤17:=by simp; omega
      generalize hbase:w.dags.map dagPr++metaPr w=base at hg' hB0
      have hLb:rowsL w=base++runsPr w.runs:=by rw [hL,← hbase,List.append_assoc]
      refine x_it w.runs.length (fun j σ H => 2≤H.n∧(∃ v,H.m 1=some (.arr 1 [v])∧Gro 2 H.n H.m 2 v (mv prV (base++runsPr (w.runs.take j)))) ∧
        σ=[(4,.ptr 1 0 0),(5,.fn 65 [] [.ptr 1 0 0]),(61,.fsl .loose 5 (mv rnV w.runs)),(62,.int .i64 (w.runs.length:Int)),(63,.int .i64 (j:Int))]) ⟨hn',⟨v',f1,by simpa [runsPr] using hg'⟩,rfl⟩ ?_
      clear s1 s4 s5 hg' f0 f1 hn' hi hii hn hwr
      clear v v' m n
      rintro T j σ ⟨n,m⟩ hjj ⟨hn,⟨v,e1,hg⟩,rfl⟩ hN hX hR
      simp only at hn e1 hg
      by_cases hj:j < w.runs.length
      · obtain ⟨r,hr⟩:∃ r,r=w.runs[j]:=⟨_,rfl⟩
        have hmem:r∈w.runs:=hr ▸ List.getElem_mem hj
        have hrr:=(hw.runs r hmem).2
        have hst:=hfew r hmem
        have htk:=runsPr_take hj
        have hpl:=runsPr_len (l:=w.runs.take j) (fun x hx => hfew x (List.mem_of_mem_take hx))
        rw [List.length_take] at hpl
        rw [← hr] at htk
        have hkl:=hrr.name.2
        have hnl:=dag_nl hrr.dag
        have tl:=textS_len r.dag.name
        have his:r.is≤9223372036854775807:=by have:=hrr.kind; unfold kindS at this; (repeat' split at this)<;>omega
        have p1:=putS_len r.is 1
        have n1:(1:Nat)≠n:=by omega
        simp (maxSteps:=1000000) (disch:=omega) only [rg,gD,simprocAttr,show (j:Int) < w.runs.length by omega,mv_get hj,← hr,Int.toNat_natCast,getC_runs,setC_rn0,rnV]
        refine ⟨_,code_text r.dag.name (by omega), ?_⟩
        simp (maxSteps:=1000000) (disch:=omega) only [rg,gD,simprocAttr,sV]
        refine ⟨_,code_all .full [[114],r.key] (by simp) (by simp<;>omega), ?_⟩
        rw [two_flat]
        simp (maxSteps:=1000000) (disch:=omega) only [rg,gD,simprocAttr]
        refine ⟨_,rows_number r.is 1 his, ?_⟩
        simp (maxSteps:=1000000) (disch:=omega) only [rg,gD,simprocAttr]
        refine ⟨_,code_all .full [(putS r.is 1).1,(textS r.dag.name).1] (by simp) (by simp<;>omega), ?_⟩
        rw [two_flat]
        simp (maxSteps:=1000000) (disch:=omega) only [rg,gD,simprocAttr]
        refine add_step (lo:=2) (v:=v) (l:=base++runsPr (w.runs.take j)) (by decide) (by simp only []; omega) (by simp (disch:=omega) only [upd_eq,upd_ne,wo_0,wo_1,wo_2,e1]) (hg.keep (by simp only []; omega) (fun id h1 h2 => by simp (disch:=omega) only [upd_ne])) (by simp; omega) fun v' fp ds hG hB hO => ?_
        simp only [sttsV] at hG hB hO ⊢
        have b0:=hO n (Nat.lt_succ_self n) (by omega) (hg.not (by omega))
        simp (disch:=omega) only [upd_ne,upd_eq] at b0
        simp (maxSteps:=1000000) (disch:=omega) only [rg,gD,simprocAttr,b0,mv_len]
        have hG2:Gro (n+1) (n+1+1) _ 2 v' (mv prV ((base++runsPr (w.runs.take j))++runPr r::sttsPr r 0)):=hG
        refine x_it r.states.length (fun i σ H => n+1≤H.n∧H.m n=some (.arr 5 [.agg [.str r.key,.str r.dag.name,tasksV r.dag.tasks,.int .i64 r.is,.fsl .loose 5 (mv sttV r.states)]]) ∧
          (∃ v,H.m 1=some (.arr 1 [v])∧Gro (n+1) H.n H.m 2 v (mv prV ((base++runsPr (w.runs.take j))++runPr r::sttsPr r i))) ∧
          σ=[(4,.ptr 1 0 0),(5,.fn 65 [] [.ptr 1 0 0]),(11,.ptr n 0 0),(61,.fsl .loose 5 (mv rnV w.runs)),(62,.int .i64 (w.runs.length:Int)),(63,.int .i64 (j:Int)),(87,.fsl .loose 5 (mv sttV r.states)),(88,.int .i64 (r.states.length:Int)),(89,.int .i64 (i:Int))])
          ⟨Nat.le_succ _,b0,⟨v',hB,hG2⟩,rfl⟩ ?_
        clear hG2 hG hB hO b0 hg e1
        clear v v' fp ds m
        rintro T2 i σ ⟨n2,m⟩ hii ⟨hn2,b0,⟨v,e1,hg⟩,rfl⟩ hN2 hX2 hR2
        simp only at hn2 b0 e1 hg
        by_cases hi:i < r.states.length
        · obtain ⟨s,hs⟩:∃ s,s=r.states[i]:=⟨_,rfl⟩
          have hsm:s∈r.states:=hs ▸ List.getElem_mem hi
          have hstd:=hrr.stands s hsm
          have hsk:=sttsPr_succ r i hi
          rw [← hs] at hsk
          have htp:=task_put s (by have:=(standsS_iff s).1 hstd; omega) (i64_of s hstd)
          rw [show stPutS s=(stBytes s,0) by unfold stPutS; rw [if_pos hstd]] at htp
          simp only [sV] at htp
          have p2:=putS_len i 1
          have m1:(1:Nat)≠n2:=by omega
          have m2:n≠n2:=by omega
          simp (maxSteps:=1000000) (disch:=omega) only [rg,gD,simprocAttr,show (i:Int) < r.states.length by omega,mv_get hi,← hs,Int.toNat_natCast,sttV]
          refine ⟨_,htp, ?_⟩
          simp (maxSteps:=1000000) (disch:=omega) only [rg,gD,simprocAttr,b0]
          refine ⟨_,rows_number i 1 (by omega), ?_⟩
          simp (maxSteps:=1000000) (disch:=omega) only [rg,gD,simprocAttr]
          refine ⟨_,code_all .full [[116],r.key,(putS i 1).1] (by simp) (by simp<;>omega), ?_⟩
          rw [show ([[116],r.key,(putS i 1).1]:List Str).flatten=([116]++r.key)++(putS i 1).1 by simp]
          simp (maxSteps:=1000000) (disch:=omega) only [rg,gD,simprocAttr]
          refine add_step (lo:=n+1) (v:=v) (l:=(base++runsPr (w.runs.take j))++runPr r::sttsPr r i) (by omega) (by simp only []; omega) (by simp (disch:=omega) only [upd_eq,upd_ne,wo_0,wo_1,wo_2,e1]) (hg.keep (by simp only []; omega) (fun id h1 h2 => by simp (disch:=omega) only [upd_ne])) (by simp [sttsPr_len]; omega) fun v' fp ds hG hB hO => ?_
          have b1:=hO n (by simp only []; omega) (by omega) (hg.not (by omega))
          simp (disch:=omega) only [upd_ne,upd_eq,b0] at b1
          simp (maxSteps:=1000000) (disch:=omega) only [rg,gD,simprocAttr]
          have e5:((base++runsPr (w.runs.take j))++runPr r::sttsPr r i)++[(116::(r.key++(putS i 1).1),stBytes s)]=(base++runsPr (w.runs.take j))++runPr r::sttsPr r (i+1):=by
            rw [hsk]; simp [sttPr]
          rw [e5] at hG
          exact hN2 _ _ hi ⟨by show n+1≤n2+2; omega,b1,⟨v',hB,hG.low (by simp only []; omega)⟩,rfl⟩
        · obtain rfl:i=r.states.length:=by omega
          simp (maxSteps:=1000000) (disch:=omega) only [rg,gD,simprocAttr,Int.lt_irrefl]
          refine hX2 _ _ _ ?_
          simp (maxSteps:=1000000) (disch:=omega) only [rg,gD,simprocAttr]
          refine x_frz0 ?_
          simp (maxSteps:=1000000) (disch:=omega) only [rg,gD,simprocAttr]
          refine hN _ _ hj ⟨by show 2≤n2; omega,⟨v,e1, ?_⟩,rfl⟩
          rw [htk]
          have:base++(runsPr (w.runs.take j)++runPrs r)=(base++runsPr (w.runs.take j))++runPr r::sttsPr r r.states.length:=by simp [runPrs]
          rw [this]; exact hg.low (by omega)
      · simp (maxSteps:=1000000) (disch:=omega) only [rg,gD,simprocAttr,show ¬ (j:Int) < w.runs.length by omega]
        refine hX _ _ _ ?_
        simp (maxSteps:=1000000) (disch:=omega) only [rg,gD,simprocAttr]
        obtain rfl:j=w.runs.length:=by omega
        rw [List.take_length,← hLb] at hg
        clear hN hX hR
        refine x_frz0 ?_
        obtain ⟨s1,s2⟩:=rows_ok hw
        rw [eq_true hw]
        simp only [if_true]
        have hlen:(rowsL w).length≤1000:=by rw [hLb]; simp; omega
        rcases hg with ⟨st,h0,rfl,hnil⟩ | ⟨id,h1,h2,rfl,h3⟩
        · have hz:rowsL w=[]:=by cases hh:rowsL w<;>simp [hh,mv] at hnil ⊢
          rw [hz] at s2
          have hS:rowsS w=[]:=s2.eq_nil
          rw [hS]
          simp (maxSteps:=1000000) (disch:=omega) only [rg,gD,simprocAttr,e1]
          refine ⟨_,_,_,_,rows_sort0 st _ _, ?_⟩
          simp (maxSteps:=1000000) (disch:=omega) only [rg,gD,simprocAttr,e1]
          refine x_frz0 ?_
          simp (maxSteps:=1000000) (disch:=omega) only [rg,gD,simprocAttr]
          (refine fin_x rfl ?_ ?_<;>simp [pack,lo,loL,V.closed,closedL,mv_closed,prsV,mv_nil])
        · rw [mv_len] at *
          have hsort:sortP cmpP (rowsL w)=rowsS w:=sort_is (rows_nodup hw) s1 s2
          have hd1:(1:Nat)≠id:=by omega
          by_cases hne:rowsL w=[]
          · rw [hne] at s2 h3 e1
            have hS:rowsS w=[]:=s2.eq_nil
            rw [hS]
            simp (maxSteps:=1000000) (disch:=omega) only [rg,gD,simprocAttr,e1,List.length_nil]
            refine ⟨_,_,_,_,rows_sort1 id _ _, ?_⟩
            simp (maxSteps:=1000000) (disch:=omega) only [rg,gD,simprocAttr,e1,List.length_nil]
            refine x_frz [id] ?_; simp only [vr,frz_p]; rw [frz_row (id:=id) (sz:=2) (l:=[]) (by first | assumption | (simp [upd]; done) | (simp [upd, *]; done)) (by simp) (by first | rfl | (simp [mv_len,s2.length_eq,closedL]<;>omega)) (by simp [mv_closed,V.closed,s2.length_eq,closedL])]
            simp (maxSteps:=1000000) (disch:=omega) only [rg,gD,simprocAttr]
            (refine fin_x rfl ?_ ?_<;>simp [pack,lo,loL,V.closed,closedL,mv_closed,prsV,mv_nil])
          simp (maxSteps:=1000000) (disch:=omega) only [rg,gD,simprocAttr,e1]
          refine ⟨_,_,_,_,rows_sort (l:=rowsL w) h3 hne (by omega), ?_⟩
          rw [hsort]
          simp (maxSteps:=1000000) (disch:=omega) only [rg,gD,simprocAttr,e1]
          refine x_frz [id] ?_; simp only [vr,frz_p]; rw [frz_row (id:=id) (sz:=2) (l:=mv prV (rowsS w)) (by first | assumption | (simp [upd]; done) | (simp [upd, *]; done)) (by simp) (by first | rfl | (simp [mv_len,s2.length_eq,prV_closed]<;>omega)) (by simp [mv_closed,V.closed,s2.length_eq,prV_closed])]
          simp (maxSteps:=1000000) (disch:=omega) only [rg,gD,simprocAttr]
          (refine fin_x rfl ?_ ?_<;>simp [pack,lo,loL,V.closed,closedL,mv_closed,prsV,prV_closed,mv_lo prV_lo])
end
theorem getC_pr0 (p:Pr):getC none 0 (prV p)=some (.str p.1):=rfl
def c25:C :=
  (.seq
 (.reg false [p (.box 4 (.v 0)),
 p (.alloc 4 (.agg [.int .i64 0,.int .i64 0,.fsl .nil 2 [],.fsl .nil 5 []]))] [(1,.r 1),(2,.r 0)])
 (.seq
 (.reg true [p (.fad 2 (.v 1)),
 p (.load (none) (.r 0)),
 p (.fad 2 (.v 1)),
 p (.load (none) (.r 0)),
 p (.len false (.r 0)),
 p (.mnx false (.r 0) [.k (.int .i64 20)]),
 p (.slc 2 (.r 4) none (some (.r 0)) none),
 p (.fad 3 (.v 1)),
 p (.load (none) (.r 0)),
 p (.fad 3 (.v 1)),
 p (.load (none) (.r 0)),
 p (.len false (.r 0)),
 p (.mnx false (.r 0) [.k (.int .i64 70)]),
 p (.slc 5 (.r 4) none (some (.r 0)) none),
 p (.fad 2 (.v 1)),
 ⟨.store (none) (.r 0) (.r 8),none,[1]⟩,
 p (.fad 3 (.v 1)),
 p (.store (none) (.r 0) (.r 3))] [(1,.v 1),(2,.v 2)])
 (.seq
 (.seq
 (.reg false [p (.fad 2 (.v 1)),
 p (.load (none) (.r 0)),
 p (.len false (.r 0)),
 p (.mov (.k (.int .i64 0)))] [(1,.v 1),(2,.v 2),(24,.r 2),(25,.r 1),(26,.r 0)])
 (.block 0
 (.loop
 (.seq
 (.reg false [p (.bin .lss (.v 26) (.v 25))] [(1,.v 1),(2,.v 2),(24,.v 24),(25,.v 25),(26,.v 26),(27,.r 0)])
 (.seq
 (.cond (.v 27)
 .skip
 (.exit 0))
 (.seq
 (.block 1
 (.seq
 (.reg false [p (.iad 2 (.v 24) (.v 26)),
 p (.load (some 2) (.r 0)),
 p (.alloc 2 (.agg [.str [],.fsl .nil 4 []])),
 p (.store (some 2) (.r 0) (.r 1))] [(1,.v 1),(2,.v 2),(4,.r 1),(24,.v 24),(25,.v 25),(26,.v 26)])
 (.seq
 (.reg false [p (.fad 1 (.v 4)),
 p (.load (none) (.r 0)),
 p (.len false (.r 0)),
 p (.bin .gtr (.r 0) (.k (.int .i64 20)))] [(1,.v 1),(2,.v 2),(24,.v 24),(25,.v 25),(26,.v 26),(33,.r 0)])
 (.cond (.v 33)
 (.seq
 (.reg false [p (.build [.int .i64 0,.int .i64 0,.fsl .nil 2 [],.fsl .nil 5 []] []),
 p (.store (some 4) (.v 2) (.r 0))] [(2,.v 2)])
 .ret)
 .skip))))
 (.reg false [p (.bin .add (.v 26) (.k (.int .i64 1))),
 p (.mov (.r 0))] [(1,.v 1),(2,.v 2),(24,.v 24),(25,.v 25),(26,.r 0)])))))))
 (.frz
 (.seq
 (.seq
 (.reg false [p (.fad 3 (.v 1)),
 p (.load (none) (.r 0)),
 p (.len false (.r 0)),
 p (.mov (.k (.int .i64 0)))] [(1,.v 1),(2,.v 2),(37,.r 2),(38,.r 1),(39,.r 0)])
 (.block 2
 (.loop
 (.seq
 (.reg false [p (.bin .lss (.v 39) (.v 38))] [(1,.v 1),(2,.v 2),(37,.v 37),(38,.v 38),(39,.v 39),(40,.r 0)])
 (.seq
 (.cond (.v 40)
 .skip
 (.exit 2))
 (.seq
 (.block 3
 (.seq
 (.reg false [p (.iad 5 (.v 37) (.v 39)),
 p (.load (some 5) (.r 0)),
 p (.alloc 5 (.agg [.str [],.str [],.fsl .nil 4 [],.int .i64 0,.fsl .nil 5 []])),
 p (.store (some 5) (.r 0) (.r 1))] [(1,.v 1),(2,.v 2),(6,.r 1),(37,.v 37),(38,.v 38),(39,.v 39)])
 (.seq
 (.reg false [p (.fad 4 (.v 6)),
 p (.load (none) (.r 0)),
 p (.len false (.r 0)),
 p (.bin .gtr (.r 0) (.k (.int .i64 20))),
 p (.mov (.r 0)),
 ⟨.fad 1 (.v 6),some (0,false),[]⟩,
 ⟨.fad 1 (.r 0),some (1,false),[]⟩,
 ⟨.load (none) (.r 0),some (2,false),[]⟩,
 ⟨.len false (.r 0),some (3,false),[]⟩,
 ⟨.bin .gtr (.r 0) (.k (.int .i64 20)),some (4,false),[]⟩,
 p (.pick (.r 5) (.k (.bool true)) (.r 0))] [(1,.v 1),(2,.v 2),(37,.v 37),(38,.v 38),(39,.v 39),(53,.r 0)])
 (.cond (.v 53)
 (.seq
 (.reg false [p (.build [.int .i64 0,.int .i64 0,.fsl .nil 2 [],.fsl .nil 5 []] []),
 p (.store (some 4) (.v 2) (.r 0))] [(2,.v 2)])
 .ret)
 .skip))))
 (.reg false [p (.bin .add (.v 39) (.k (.int .i64 1))),
 p (.mov (.r 0))] [(1,.v 1),(2,.v 2),(37,.v 37),(38,.v 38),(39,.r 0)])))))))
 (.frz
 (.seq
 (.reg false [p (.load (some 4) (.v 1)),
 p (.store (some 4) (.v 2) (.r 0))] [(2,.v 2)])
 .ret)))))))
def r25:List RV:=[.c 2 (some 4)]
theorem en25:EnP Tryz.prog 25 57 c25 r25:=mkEnP (by kernel_rfl) Tryz.func25 (by kernel_rfl) ⟨_,rfl,by kernel_rfl,by kernel_rfl⟩
def c27:C :=
  (.seq
 (.reg false [p (.mov (.k (.bool false)))] [])
 (.seq
 (.reg false [p (.build [.int .i64 0,.int .i64 0,.fsl .nil 2 [],.fsl .nil 5 []] [(0,1,.k (.int .i64 5))]),
 p (.call true (.k (.fn 26 [] [])) [.r 0]),
 p (.mov (.r 0)),
 p (.ext (.r 0) 0),
 p (.ext (.r 1) 1),
 p (.mov (.r 1)),
 p (.mov (.r 1))] [(1,.r 1),(2,.r 0)])
 (.seq
 (.reg false [p (.mov (.v 2)),
 p (.bin .eql (.r 0) (.k (.int .i64 0))),
 p (.mov (.r 0)),
 ⟨.mov (.v 1),some (0,true),[]⟩,
 ⟨.len false (.r 0),some (1,true),[]⟩,
 ⟨.bin .eql (.r 0) (.k (.int .i64 1)),some (2,true),[]⟩,
 p (.pick (.r 3) (.r 0) (.k (.bool false))),
 p (.mov (.r 0)),
 ⟨.mov (.v 1),some (0,true),[]⟩,
 ⟨.iad 2 (.r 0) (.k (.int .i64 0)),some (1,true),[]⟩,
 ⟨.fad 0 (.r 0),some (2,true),[]⟩,
 ⟨.load (none) (.r 0),some (3,true),[]⟩,
 ⟨.bin .eql (.r 0) (.k (.str [109])),some (4,true),[]⟩,
 p (.pick (.r 5) (.r 0) (.k (.bool false))),
 p (.mov (.r 0))] [(0,.r 0)])
 .ret)))
def r27:List RV:=[.t 0]
theorem en27:EnP Tryz.prog 27 22 c27 r27:=mkEnP (by kernel_rfl) Tryz.func27 (by kernel_rfl) ⟨_,rfl,by kernel_rfl,by kernel_rfl⟩
def c9:C :=
  (.seq
 (.reg false [p (.box 4 (.v 0)),
 p (.mov (.k (.bool false)))] [(1,.r 1)])
 (.seq
 (.reg false [p (.load (some 4) (.v 1)),
 p (.call true (.k (.fn 25 [] [])) [.r 0]),
 p (.store (some 4) (.v 1) (.r 0))] [(1,.v 1)])
 (.seq
 (.reg false [p (.load (some 4) (.v 1)),
 p (.call true (.k (.fn 26 [] [])) [.r 0]),
 p (.mov (.r 0)),
 p (.ext (.r 0) 0),
 p (.ext (.r 1) 1),
 p (.mov (.r 1)),
 p (.mov (.r 1))] [(1,.v 1),(3,.r 1),(4,.r 0)])
 (.seq
 (.seq
 (.reg false [p (.load (some 4) (.v 1)),
 p (.call true (.k (.fn 18 [] [])) [.r 0]),
 p (.un .not (.r 0))] [(1,.v 1),(3,.v 3),(4,.v 4),(14,.r 0)])
 (.cond (.v 14)
 (.seq
 (.reg false [p (.call true (.k (.fn 27 [] [])) []),
 p (.mov (.r 0)),
 ⟨.mov (.v 4),some (0,true),[]⟩,
 ⟨.bin .eql (.r 0) (.k (.int .i64 1)),some (1,true),[]⟩,
 p (.pick (.r 2) (.r 0) (.k (.bool false))),
 p (.mov (.r 0)),
 ⟨.mov (.v 3),some (0,true),[]⟩,
 ⟨.len false (.r 0),some (1,true),[]⟩,
 ⟨.bin .eql (.r 0) (.k (.int .i64 0)),some (2,true),[]⟩,
 p (.pick (.r 3) (.r 0) (.k (.bool false))),
 p (.mov (.r 0))] [(2,.r 0)])
 .ret)
 .skip))
 (.seq
 (.reg false [p (.call true (.k (.fn 27 [] [])) []),
 p (.mov (.r 0)),
 ⟨.mov (.v 4),some (0,true),[]⟩,
 ⟨.bin .eql (.r 0) (.k (.int .i64 0)),some (1,true),[]⟩,
 p (.pick (.r 2) (.r 0) (.k (.bool false))),
 p (.mov (.r 0)),
 ⟨.mov (.v 3),some (0,true),[]⟩,
 ⟨.load (some 4) (.v 1),some (1,true),[]⟩,
 ⟨.call true (.k (.fn 29 [] [])) [.r 0],some (2,true),[]⟩,
 ⟨.call true (.k (.fn 28 [] [])) [.r 2,.r 0],some (3,true),[]⟩,
 p (.pick (.r 4) (.r 0) (.k (.bool false))),
 p (.mov (.r 0))] [(2,.r 0)])
 .ret)))))
theorem law_few21 (w:Wd) (h:WdA w):PCall Tryz.prog 25 [wdV w] (wdV (fewS w)):=by
  refine en25 (by simp) (by simp [closedL,wdV_closed]) ?_
  have h1:=h.dags
  have h2:=h.runs
  have e1:(cutW w).dags=w.dags.take 20:=rfl
  have e2:(cutW w).runs=w.runs.take 70:=rfl
  have d1:List.take (min (w.dags.length:Int) 20).toNat (mv dagV w.dags)=mv dagV (cutW w).dags:=by
    rw [mv_take,e1]; congr 1
    by_cases c:w.dags.length≤20
    · rw [List.take_of_length_le (by omega),List.take_of_length_le c]
    · rw [show (min (w.dags.length:Int) 20).toNat=20 by omega]
  have r1:List.take (min (w.runs.length:Int) 70).toNat (mv rnV w.runs)=mv rnV (cutW w).runs:=by
    rw [mv_take,e2]; congr 1
    by_cases c:w.runs.length≤70
    · rw [List.take_of_length_le (by omega),List.take_of_length_le c]
    · rw [show (min (w.runs.length:Int) 70).toNat=70 by omega]
  have sl:∀ a b,slSt .loose a b none=.loose:=fun _ _ => rfl
  have hD:(cutW w).dags.length≤20:=by rw [e1]; simp; omega
  have hR:(cutW w).runs.length≤70:=by rw [e2]; simp; omega
  have hfew:fewS w=if (cutW w).dags.any bigD=true then zW else if (cutW w).runs.any bigR=true then zW else cutW w:=rfl
  have hcut:wdV (cutW w)=V.agg [V.int .i64 w.now,V.int .i64 w.token,V.fsl .loose 2 (mv dagV (cutW w).dags),V.fsl .loose 5 (mv rnV (cutW w).runs)]:=rfl
  generalize (cutW w).dags=D at d1 hD hfew hcut
  generalize (cutW w).runs=U at r1 hR hfew hcut
  simp (maxSteps:=1000000) (disch:=omega) only [rg,gD,simprocAttr,c25,wdV,mv_len,d1,r1,sl]
  refine ⟨⟨by omega,by omega,by omega⟩,⟨by omega,by omega,by omega⟩,by simp [compat,disj,nthL], ?_⟩
  refine x_it D.length (fun k σ H => 2≤H.n∧H.m 0=some (.arr 4 [wdV (cutW w)])∧H.m 1=some (.arr 4 [V.agg [V.int .i64 0,V.int .i64 0,V.fsl .nil 2 [],V.fsl .nil 5 []]])∧(D.any bigD=(D.drop k).any bigD) ∧
    σ=[(1,.ptr 0 0 0),(2,.ptr 1 0 0),(24,.fsl .loose 2 (mv dagV D)),(25,.int .i64 (D.length:Int)),(26,.int .i64 (k:Int))]) ⟨Nat.le_refl 2,by rw [hcut]; exact (by simp (disch:=omega) only [upd_eq,upd_ne,wo_0,wo_1,wo_2]),(by simp (disch:=omega) only [upd_eq,upd_ne,wo_0,wo_1,wo_2]),rfl,by rfl⟩ ?_
  rintro T k σ ⟨n,m⟩ hkk ⟨hn,e0,f1,hs,rfl⟩ hN hX hR'
  simp only at hn e0 f1
  rw [hcut] at e0
  by_cases hk:k < D.length
  · rw [any_drop hk] at hs
    by_cases c:20 < D[k].tasks.length
    · have hb:bigD D[k]=true:=by simp [bigD,c]
      rw [hb,Bool.true_or] at hs
      have hres:fewS w=zW:=by rw [hfew,if_pos hs]
      simp (maxSteps:=1000000) (disch:=omega) only [rg,gD,simprocAttr,show (k:Int) < D.length by omega,mv_get hk,getC_dags,Int.toNat_natCast,dagV,tasksV,mv_len,show (20:Int) < D[k].tasks.length by omega,f1]
      refine hR' _ _ ?_
      refine fin_x (by simp (disch:=omega) only [r25,resE,find,loadO,upd_eq,upd_ne,reduceIte,Nat.reduceEqDiff]; rfl) ?_ ?_<;>simp [pack,lo,loL,V.closed,closedL,mv_closed,wdV,zW,mv_nil,mv_lo dagV_lo,mv_lo rnV_lo,mv_closed dagV_closed,rnV_closed,hres]
    · have hb:bigD D[k]=false:=by simp [bigD]; omega
      rw [hb,Bool.false_or] at hs
      simp (maxSteps:=1000000) (disch:=omega) only [rg,gD,simprocAttr,show (k:Int) < D.length by omega,mv_get hk,getC_dags,Int.toNat_natCast,dagV,tasksV,mv_len,show ¬ (20:Int) < D[k].tasks.length by omega,f1]
      exact hN _ _ hk ⟨by simp only []; omega,(by simp (disch:=omega) only [upd_eq,upd_ne,wo_0,wo_1,wo_2,e0,hcut]),(by simp (disch:=omega) only [upd_eq,upd_ne,wo_0,wo_1,wo_2,f1]),hs,rfl⟩
  · obtain rfl:k=D.length:=by omega
    rw [List.drop_length] at hs
    have hs':¬ D.any bigD=true:=by rw [hs]; simp
    rw [if_neg hs'] at hfew
    simp (maxSteps:=1000000) (disch:=omega) only [rg,gD,simprocAttr,Int.lt_irrefl]
    refine hX _ _ _ ?_
    simp (maxSteps:=1000000) (disch:=omega) only [rg,gD,simprocAttr]
    refine x_frz0 ?_
    simp (maxSteps:=1000000) (disch:=omega) only [rg,gD,simprocAttr,e0,mv_len]
    refine x_it U.length (fun k σ H => 2≤H.n∧H.m 0=some (.arr 4 [wdV (cutW w)])∧H.m 1=some (.arr 4 [V.agg [V.int .i64 0,V.int .i64 0,V.fsl .nil 2 [],V.fsl .nil 5 []]])∧(U.any bigR=(U.drop k).any bigR) ∧
      σ=[(1,.ptr 0 0 0),(2,.ptr 1 0 0),(37,.fsl .loose 5 (mv rnV U)),(38,.int .i64 (U.length:Int)),(39,.int .i64 (k:Int))]) ⟨hn,by rw [hcut]; exact e0,f1,rfl,by rfl⟩ ?_
    clear hN hX hR' hs T
    rintro T k σ ⟨n,m⟩ hkk ⟨hn,e0,f1,hs,rfl⟩ hN hX hR'
    simp only at hn e0 f1
    rw [hcut] at e0
    by_cases hk:k < U.length
    · rw [any_drop hk] at hs
      by_cases c1:20 < U[k].states.length
      · have hb:bigR U[k]=true:=by simp [bigR,c1]
        rw [hb,Bool.true_or] at hs
        have hres:fewS w=zW:=by rw [hfew,if_pos hs]
        simp (maxSteps:=1000000) (disch:=omega) only [rg,gD,simprocAttr,show (k:Int) < U.length by omega,mv_get hk,getC_runs,Int.toNat_natCast,rnV,sttsV,tasksV,mv_len,show (20:Int) < U[k].states.length by omega,f1]
        refine hR' _ _ ?_
        refine fin_x (by simp (disch:=omega) only [r25,resE,find,loadO,upd_eq,upd_ne,reduceIte,Nat.reduceEqDiff]; rfl) ?_ ?_<;>simp [pack,lo,loL,V.closed,closedL,mv_closed,wdV,zW,mv_nil,mv_lo dagV_lo,mv_lo rnV_lo,mv_closed dagV_closed,rnV_closed,hres]
      by_cases c2:20 < U[k].dag.tasks.length
      · have hb:bigR U[k]=true:=by simp [bigR,c2]
        rw [hb,Bool.true_or] at hs
        have hres:fewS w=zW:=by rw [hfew,if_pos hs]
        simp (maxSteps:=1000000) (disch:=omega) only [rg,gD,simprocAttr,show (k:Int) < U.length by omega,mv_get hk,getC_runs,Int.toNat_natCast,rnV,sttsV,tasksV,mv_len,show ¬ (20:Int) < U[k].states.length by omega,show (20:Int) < U[k].dag.tasks.length by omega,f1]
        refine hR' _ _ ?_
        refine fin_x (by simp (disch:=omega) only [r25,resE,find,loadO,upd_eq,upd_ne,reduceIte,Nat.reduceEqDiff]; rfl) ?_ ?_<;>simp [pack,lo,loL,V.closed,closedL,mv_closed,wdV,zW,mv_nil,mv_lo dagV_lo,mv_lo rnV_lo,mv_closed dagV_closed,rnV_closed,hres]
      have hb:bigR U[k]=false:=by simp [bigR]; omega
      rw [hb,Bool.false_or] at hs
      simp (maxSteps:=1000000) (disch:=omega) only [rg,gD,simprocAttr,show (k:Int) < U.length by omega,mv_get hk,getC_runs,Int.toNat_natCast,rnV,sttsV,tasksV,mv_len,show ¬ (20:Int) < U[k].states.length by omega,show ¬ (20:Int) < U[k].dag.tasks.length by omega,f1]
      exact hN _ _ hk ⟨by simp only []; omega,(by simp (disch:=omega) only [upd_eq,upd_ne,wo_0,wo_1,wo_2,e0,hcut]),(by simp (disch:=omega) only [upd_eq,upd_ne,wo_0,wo_1,wo_2,f1]),hs,rfl⟩
    · obtain rfl:k=U.length:=by omega
      rw [List.drop_length] at hs
      have hs':¬ U.any bigR=true:=by rw [hs]; simp
      rw [if_neg hs'] at hfew
      simp (maxSteps:=1000000) (disch:=omega) only [rg,gD,simprocAttr,Int.lt_irrefl]
      refine hX _ _ _ ?_
      simp (maxSteps:=1000000) (disch:=omega) only [rg,gD,simprocAttr]
      refine x_frz0 ?_
      simp (maxSteps:=1000000) (disch:=omega) only [rg,gD,simprocAttr,e0,f1]
      have hfw:V.agg [V.int .i64 (fewS w).now,V.int .i64 (fewS w).token,V.fsl .loose 2 (mv dagV (fewS w).dags),V.fsl .loose 5 (mv rnV (fewS w).runs)]=wdV (fewS w):=rfl
      rw [hfw,hfew,hcut]
      refine fin_x (by simp (disch:=omega) only [r25,resE,find,loadO,upd_eq,upd_ne,reduceIte,Nat.reduceEqDiff]; rfl) ?_ ?_<;>simp [pack,lo,loL,V.closed,closedL,mv_closed,wdV,zW,mv_nil,mv_lo dagV_lo,mv_lo rnV_lo,mv_closed dagV_closed,rnV_closed]
section
def w5W:Wd:=⟨5,0,[],[]⟩
theorem w5_WR:WR w5W:=by
  refine ⟨by simp [w5W,MT],by simp [w5W,MT],by simp [w5W],by simp [w5W], ?_, ?_,by simp [w5W],by simp [w5W],by simpa [w5W,toksR] using Tk.nil _⟩
  all_goals (intro i hi; simp [w5W,dagsN,runsN] at hi)
theorem w5_M:WdM w5W:=⟨⟨by simp [w5W],by simp [w5W],by simp [w5W],by simp [w5W]⟩,by simp [w5W]⟩
theorem w5_rows:rowsS w5W=[([109],(putS 5 6).1++(putS 0 6).1)]:=by simp [rowsS,w5W,metaPr,putsP,withP,runsPr]
open Classical in
theorem law_alive21:PCall Tryz.prog 27 [] (.bool true):=by
  refine en27 (by simp) (by simp [closedL]) ?_
  have h1:PCall Tryz.prog 26 [V.agg [.int .i64 5,.int .i64 0,.fsl .nil 2 [],.fsl .nil 5 []]] (.tup [.fsl .loose 2 [prV ([109],(putS 5 6).1++(putS 0 6).1)],.int .i64 0]):=by
    have:=rows_rows w5W w5_M
    rw [if_pos w5_WR,if_pos w5_WR,w5_rows] at this
    exact this.of_eq (by simp [wdV,w5W,loL,lo,mv_nil])
  simp (maxSteps:=1000000) (disch:=omega) only [rg,gD,simprocAttr,c27]
  refine ⟨_,h1, ?_⟩
  simp (maxSteps:=1000000) (disch:=omega) only [rg,gD,simprocAttr,prV]
  (refine fin_x rfl ?_ ?_<;>simp [pack,lo,loL,V.closed,closedL,mv_closed])
end
structure Chg where
  key:Str
  val:Str
  gone:Bool
  deriving DecidableEq
def chV (c:Chg):V:=.agg [.str c.key,.str c.val,.bool c.gone]
theorem chV_closed (c:Chg):(chV c).closed=true:=by simp [chV,V.closed,closedL]
theorem chV_lo (c:Chg):lo (chV c)=chV c:=by simp [chV,lo,loL]
def chsV (l:List Chg):V:=.fsl .loose 3 (mv chV l)
def goneC (p:Pr):Chg:=⟨p.1,[],true⟩
def setC' (p:Pr):Chg:=⟨p.1,p.2,false⟩
def diffS:List Pr→List Pr→List Chg
  | [],[] => []
  | p::a,[] => goneC p::diffS a []
  | [],q::b => setC' q::diffS [] b
  | p::a,q::b => if ltS p.1 q.1=true then goneC p::diffS a (q::b) else if ltS q.1 p.1=true then setC' q::diffS (p::a) b else (if p.2≠q.2 then [setC' q] else [])++diffS a b
termination_by a b => a.length+b.length
theorem diff_nil:diffS [] []=[]:=by rw [diffS]
theorem diff_l (p:Pr) (a:List Pr):diffS (p::a) []=goneC p::diffS a []:=by rw [diffS]
theorem diff_r (q:Pr) (b:List Pr):diffS [] (q::b)=setC' q::diffS [] b:=by rw [diffS]
theorem diff_c (p q:Pr) (a b:List Pr):diffS (p::a) (q::b)=if ltS p.1 q.1=true then goneC p::diffS a (q::b) else if ltS q.1 p.1=true then setC' q::diffS (p::a) b else (if p.2≠q.2 then [setC' q] else [])++diffS a b:=by rw [diffS]
theorem diff_len:∀ (a b:List Pr),(diffS a b).length≤a.length+b.length
  | [],[] => by rw [diff_nil]; simp
  | p::a,[] => by
    have:=diff_len a []
    rw [diff_l]; simp at this ⊢; omega
  | [],q::b => by
    have:=diff_len [] b
    rw [diff_r]; simp at this ⊢; omega
  | p::a,q::b => by
    rw [diff_c]
    have h1:=diff_len a (q::b)
    have h2:=diff_len (p::a) b
    have h3:=diff_len a b
    simp only [List.length_cons] at h1 h2
    split
    · simp; omega
    · split
      · simp; omega
      · have:(if p.2≠q.2 then [setC' q] else []).length≤1:=by split<;>simp
        simp only [List.length_append,List.length_cons]; omega
termination_by a b => a.length+b.length
def c30:C :=
  (.seq
 (.reg false [p (.box 4 (.v 0)),
 p (.box 4 (.v 1)),
 p (.mov (.k (.fsl .nil 3 []))),
 p (.mov (.k (.int .i64 0)))] [(2,.r 3),(3,.r 2)])
 (.seq
 (.reg false [p (.load (some 4) (.v 2)),
 p (.call true (.k (.fn 26 [] [])) [.r 0]),
 p (.mov (.r 0)),
 p (.ext (.r 0) 0),
 p (.ext (.r 1) 1),
 p (.mov (.r 1)),
 p (.mov (.r 1))] [(3,.v 3),(6,.r 1),(7,.r 0)])
 (.seq
 (.reg false [p (.load (some 4) (.v 3)),
 p (.call true (.k (.fn 26 [] [])) [.r 0]),
 p (.mov (.r 0)),
 p (.ext (.r 0) 0),
 p (.ext (.r 1) 1),
 p (.mov (.r 1)),
 p (.mov (.r 1))] [(6,.v 6),(7,.v 7),(8,.r 1),(9,.r 0)])
 (.seq
 (.seq
 (.reg false [p (.mov (.v 7)),
 p (.bin .neq (.r 0) (.k (.int .i64 0))),
 p (.mov (.r 0)),
 ⟨.mov (.v 9),some (0,false),[]⟩,
 ⟨.bin .neq (.r 0) (.k (.int .i64 0)),some (1,false),[]⟩,
 p (.pick (.r 2) (.k (.bool true)) (.r 0))] [(6,.v 6),(8,.v 8),(26,.r 0)])
 (.cond (.v 26)
 (.seq
 (.reg false [p (.mov (.k (.fsl .nil 3 []))),
 p (.mov (.k (.int .i64 1)))] [(4,.r 1),(5,.r 0)])
 (.frz .ret))
 .skip))
 (.seq
 (.reg false [p (.mov (.k (.fsl .nil 3 [])))] [(6,.v 6),(8,.v 8),(10,.r 0)])
 (.seq
 (.block 0
 (.loop
 (.seq
 (.seq
 (.reg false [p (.mov (.v 6)),
 p (.len false (.r 0)),
 p (.bin .gtr (.r 0) (.k (.int .i64 0))),
 p (.mov (.r 0)),
 ⟨.mov (.v 8),some (0,false),[]⟩,
 ⟨.len false (.r 0),some (1,false),[]⟩,
 ⟨.bin .gtr (.r 0) (.k (.int .i64 0)),some (2,false),[]⟩,
 p (.pick (.r 3) (.k (.bool true)) (.r 0))] [(6,.v 6),(8,.v 8),(10,.v 10),(34,.r 0)])
 (.cond (.v 34)
 .skip
 (.exit 0)))
 (.block 1
 (.block 2
 (.seq
 (.reg true [p (.mov (.v 8)),
 p (.len false (.r 0)),
 p (.bin .eql (.r 0) (.k (.int .i64 0))),
 p (.mov (.r 0)),
 ⟨.mov (.v 6),some (0,false),[]⟩,
 ⟨.len false (.r 0),some (1,false),[]⟩,
 ⟨.bin .gtr (.r 0) (.k (.int .i64 0)),some (2,false),[]⟩,
 ⟨.mov (.r 0),some (3,false),[]⟩,
 ⟨.mov (.v 6),some (0,true),[]⟩,
 ⟨.iad 2 (.r 0) (.k (.int .i64 0)),some (1,true),[]⟩,
 ⟨.fad 0 (.r 0),some (2,true),[]⟩,
 ⟨.load (none) (.r 0),some (3,true),[]⟩,
 ⟨.mov (.v 8),some (4,true),[]⟩,
 ⟨.iad 2 (.r 0) (.k (.int .i64 0)),some (5,true),[]⟩,
 ⟨.fad 0 (.r 0),some (6,true),[]⟩,
 ⟨.load (none) (.r 0),some (7,true),[]⟩,
 ⟨.bin .lss (.r 4) (.r 0),some (8,true),[]⟩,
 ⟨.pick (.r 9) (.r 0) (.k (.bool false)),some (13,false),[]⟩,
 p (.pick (.r 14) (.k (.bool true)) (.r 0)),
 p (.mov (.r 0))] [(6,.v 6),(8,.v 8),(10,.v 10),(60,.r 0)])
 (.cond (.v 60)
 (.seq
 (.reg false [p (.mov (.v 10)),
 p (.mov (.v 6)),
 p (.iad 2 (.r 0) (.k (.int .i64 0))),
 p (.fad 0 (.r 0)),
 p (.load (none) (.r 0)),
 p (.build [.str [],.str [],.bool false] [(0,1,.r 0),(2,1,.k (.bool true))]),
 p (.bsl 3 [.r 0]),
 p (.app 3 40 (.r 6) (.r 0)),
 p (.mov (.r 0))] [(6,.v 6),(8,.v 8),(10,.r 0)])
 (.reg false [p (.mov (.v 6)),
 p (.slc 2 (.r 0) (some (.k (.int .i64 1))) none none),
 p (.mov (.r 0))] [(6,.r 0),(8,.v 8),(10,.v 10)]))
 (.seq
 (.reg true [p (.mov (.v 6)),
 p (.len false (.r 0)),
 p (.bin .eql (.r 0) (.k (.int .i64 0))),
 p (.mov (.r 0)),
 ⟨.mov (.v 8),some (0,false),[]⟩,
 ⟨.iad 2 (.r 0) (.k (.int .i64 0)),some (1,false),[]⟩,
 ⟨.fad 0 (.r 0),some (2,false),[]⟩,
 ⟨.load (none) (.r 0),some (3,false),[]⟩,
 ⟨.mov (.v 6),some (4,false),[]⟩,
 ⟨.iad 2 (.r 0) (.k (.int .i64 0)),some (5,false),[]⟩,
 ⟨.fad 0 (.r 0),some (6,false),[]⟩,
 ⟨.load (none) (.r 0),some (7,false),[]⟩,
 ⟨.bin .lss (.r 4) (.r 0),some (8,false),[]⟩,
 p (.pick (.r 9) (.k (.bool true)) (.r 0)),
 p (.mov (.r 0))] [(6,.v 6),(8,.v 8),(10,.v 10),(90,.r 0)])
 (.cond (.v 90)
 (.seq
 (.reg true [p (.mov (.v 10)),
 p (.mov (.v 8)),
 p (.iad 2 (.r 0) (.k (.int .i64 0))),
 p (.fad 0 (.r 0)),
 p (.load (none) (.r 0)),
 p (.mov (.v 8)),
 p (.iad 2 (.r 0) (.k (.int .i64 0))),
 p (.fad 1 (.r 0)),
 p (.load (none) (.r 0)),
 p (.build [.str [],.str [],.bool false] [(0,1,.r 4),(1,1,.r 0)]),
 p (.bsl 3 [.r 0]),
 p (.app 3 40 (.r 10) (.r 0)),
 p (.mov (.r 0))] [(6,.v 6),(8,.v 8),(10,.r 0)])
 (.reg false [p (.mov (.v 8)),
 p (.slc 2 (.r 0) (some (.k (.int .i64 1))) none none),
 p (.mov (.r 0))] [(6,.v 6),(8,.r 0),(10,.v 10)]))
 (.seq
 (.seq
 (.reg true [p (.mov (.v 6)),
 p (.iad 2 (.r 0) (.k (.int .i64 0))),
 p (.fad 1 (.r 0)),
 p (.load (none) (.r 0)),
 p (.mov (.v 8)),
 p (.iad 2 (.r 0) (.k (.int .i64 0))),
 p (.fad 1 (.r 0)),
 p (.load (none) (.r 0)),
 p (.bin .neq (.r 4) (.r 0))] [(6,.v 6),(8,.v 8),(10,.v 10),(43,.r 0)])
 (.cond (.v 43)
 (.reg true [p (.mov (.v 10)),
 p (.mov (.v 8)),
 p (.iad 2 (.r 0) (.k (.int .i64 0))),
 p (.fad 0 (.r 0)),
 p (.load (none) (.r 0)),
 p (.mov (.v 8)),
 p (.iad 2 (.r 0) (.k (.int .i64 0))),
 p (.fad 1 (.r 0)),
 p (.load (none) (.r 0)),
 p (.build [.str [],.str [],.bool false] [(0,1,.r 4),(1,1,.r 0)]),
 p (.bsl 3 [.r 0]),
 p (.app 3 40 (.r 10) (.r 0)),
 p (.mov (.r 0))] [(6,.v 6),(8,.v 8),(10,.r 0)])
 .skip))
 (.reg true [p (.mov (.v 6)),
 p (.slc 2 (.r 0) (some (.k (.int .i64 1))) none none),
 p (.mov (.v 8)),
 p (.slc 2 (.r 0) (some (.k (.int .i64 1))) none none),
 p (.mov (.r 2)),
 p (.mov (.r 1))] [(6,.r 1),(8,.r 0),(10,.v 10)])))))))))))
 (.frz
 (.seq
 (.reg false [p (.mov (.v 10)),
 p (.mov (.r 0)),
 p (.mov (.k (.int .i64 0)))] [(4,.r 1),(5,.r 0)])
 (.frz .ret)))))))))
def r30:List RV:=[.t 4,.t 5]
theorem en30:EnP Tryz.prog 30 120 c30 r30:=mkEnP (by kernel_rfl) Tryz.func30 (by kernel_rfl) ⟨_,rfl,by kernel_rfl,by kernel_rfl⟩
def c31:C :=
  (.seq
 (.reg false [p (.mov (.k (.bool false)))] [(0,.v 0),(1,.v 1)])
 (.seq
 (.seq
 (.reg false [p (.mov (.v 0)),
 p (.len false (.r 0)),
 p (.mov (.v 1)),
 p (.len false (.r 0)),
 p (.bin .neq (.r 2) (.r 0))] [(0,.v 0),(1,.v 1),(10,.r 0)])
 (.cond (.v 10)
 (.seq
 (.reg false [p (.mov (.k (.bool false)))] [(4,.r 0)])
 .ret)
 .skip))
 (.seq
 (.seq
 (.reg false [p (.mov (.v 0)),
 p (.len false (.r 0)),
 p (.mov (.k (.int .i64 0)))] [(0,.v 0),(1,.v 1),(12,.r 1),(13,.r 0)])
 (.block 0
 (.loop
 (.seq
 (.reg false [p (.bin .lss (.v 13) (.v 12))] [(0,.v 0),(1,.v 1),(12,.v 12),(13,.v 13),(14,.r 0)])
 (.seq
 (.cond (.v 14)
 .skip
 (.exit 0))
 (.seq
 (.block 1
 (.seq
 (.reg false [p (.mov (.v 13)),
 p (.mov (.r 0))] [(0,.v 0),(1,.v 1),(5,.r 0),(12,.v 12),(13,.v 13)])
 (.seq
 (.reg true [p (.mov (.v 0)),
 p (.mov (.v 5)),
 p (.iad 3 (.r 1) (.r 0)),
 p (.load (some 3) (.r 0)),
 p (.mov (.v 1)),
 p (.mov (.v 5)),
 p (.iad 3 (.r 1) (.r 0)),
 p (.load (some 3) (.r 0)),
 p (.eqs true [1,1,2] (.r 4) (.r 0))] [(0,.v 0),(1,.v 1),(12,.v 12),(13,.v 13),(24,.r 0)])
 (.cond (.v 24)
 (.seq
 (.reg false [p (.mov (.k (.bool false)))] [(4,.r 0)])
 .ret)
 .skip))))
 (.reg false [p (.bin .add (.v 13) (.k (.int .i64 1))),
 p (.mov (.r 0))] [(0,.v 0),(1,.v 1),(12,.v 12),(13,.r 0)])))))))
 (.frz
 (.seq
 (.reg false [p (.mov (.k (.bool true)))] [(4,.r 0)])
 .ret)))))
def r31:List RV:=[.t 4]
theorem en31:EnP Tryz.prog 31 26 c31 r31:=mkEnP (by kernel_rfl) Tryz.func31 (by kernel_rfl) ⟨_,rfl,by kernel_rfl,by kernel_rfl⟩
section
theorem app_oneG {H:Hp} {sz bt:Nat} {v:V} {l:List V} {a:V} {K:KI} (h:Gro 0 H.n H.m sz v l) (hl:l.length≤1000000) (hb:bt≤1000)
    (k:∀ v' fp ds,Gro H.n (H.n+1) (appd ds H.m) sz v' (l++[a])→(∀ id,id < H.n→(∀ q,v≠.sl id 0 q)→appd ds H.m id=H.m id)→K v' fp ds 1):fin (appO H sz bt v (.fsl .full sz [a])) K:=by
  have e:(l++[a]).length=l.length+1:=List.length_append
  have hm:(l.length+1)*bt≤140737488355328:=Nat.le_trans (Nat.mul_le_mul (show l.length+1≤1000001 by omega) hb) (by decide)
  unfold appO
  rcases h with ⟨st,h0,rfl,rfl⟩ | ⟨id,h1,h1',rfl,h2⟩
  · refine ⟨⟨rfl,rfl,h0,by simpa using hm⟩,k _ _ _ (.inr ⟨H.n,Nat.le_refl _,by simp,by simp,by simp [appd,upd]⟩) (fun id hid _ => ?_)⟩
    have:id≠H.n:=by omega
    simp [appd,upd,this]
  · simp only [h2]
    refine ⟨⟨rfl,trivial,trivial,Nat.le_refl _,by simpa using hm⟩,k _ _ _ (.inr ⟨H.n,Nat.le_refl _,by simp,by simp,by simp [appd,upd]⟩) (fun i hid hn => ?_)⟩
    have h3:i≠H.n:=by omega
    have h4:i≠id:=fun e => hn _ (by rw [e])
    simp [appd,upd,h3,h4]
theorem getC_pr1 (p:Pr):getC none 1 (prV p)=some (.str p.2):=rfl
theorem rows_len {w:Wd} (h:WR w):(rowsS w).length≤1000:=by
  have:=(rows_ok h).2.length_eq
  have h4:=runsPr_len h.few
  have hML:(metaPr w).length≤1:=by unfold metaPr; split<;>simp
  have:=h.ndags; have:=h.nruns
  simp only [rowsL,List.length_append,List.length_map] at *; omega
open Classical in
set_option maxHeartbeats 2000000 in
theorem rows_diff (a b:Wd) (ha:WdM a) (hb:WdM b):PCall Tryz.prog 30 [wdV a,wdV b] (.tup [chsV (if WR a∧WR b then diffS (rowsS a) (rowsS b) else []),.int .i64 (if WR a∧WR b then 0 else 1)]):=by
  refine en30 (by simp) (by simp [closedL,wdV_closed]) ?_
  have h1:=rows_rows a ha
  have h2:=rows_rows b hb
  by_cases c:WR a∧WR b
  case neg =>
    rw [if_neg c,if_neg c]
    by_cases c1:WR a
    · have c2:¬ WR b:=fun h => c ⟨c1,h⟩
      rw [if_pos c1,if_pos c1] at h1
      rw [if_neg c2,if_neg c2] at h2
      simp (maxSteps:=1000000) (disch:=omega) only [rg,gD,simprocAttr,c30,getC_wd]
      refine ⟨⟨rfl,rfl⟩,⟨rfl,rfl⟩,_,h1, ?_⟩
      simp (maxSteps:=1000000) (disch:=omega) only [rg,gD,simprocAttr,getC_wd]
      refine ⟨_,h2, ?_⟩
      simp (maxSteps:=1000000) (disch:=omega) only [rg,gD,simprocAttr]
      refine x_frz0 ?_
      simp (maxSteps:=1000000) (disch:=omega) only [rg,gD,simprocAttr]
      (refine fin_x rfl ?_ ?_<;>simp [pack,lo,loL,V.closed,closedL,mv_closed,chsV,mv_nil])
    · rw [if_neg c1,if_neg c1] at h1
      simp (maxSteps:=1000000) (disch:=omega) only [rg,gD,simprocAttr,c30,getC_wd]
      refine ⟨⟨rfl,rfl⟩,⟨rfl,rfl⟩,_,h1, ?_⟩
      simp (maxSteps:=1000000) (disch:=omega) only [rg,gD,simprocAttr,getC_wd]
      refine ⟨_,h2, ?_⟩
      simp (maxSteps:=1000000) (disch:=omega) only [rg,gD,simprocAttr]
      refine x_frz0 ?_
      simp (maxSteps:=1000000) (disch:=omega) only [rg,gD,simprocAttr]
      (refine fin_x rfl ?_ ?_<;>simp [pack,lo,loL,V.closed,closedL,mv_closed,chsV,mv_nil])
  rw [if_pos c,if_pos c]
  rw [if_pos c.1,if_pos c.1] at h1
  rw [if_pos c.2,if_pos c.2] at h2
  have hX:=rows_len c.1
  have hY:=rows_len c.2
  generalize rowsS a=X at hX h1
  generalize rowsS b=Y at hY h2
  have hdl:=diff_len X Y
  simp (maxSteps:=1000000) (disch:=omega) only [rg,gD,simprocAttr,c30,getC_wd]
  refine ⟨⟨rfl,rfl⟩,⟨rfl,rfl⟩,_,h1, ?_⟩
  simp (maxSteps:=1000000) (disch:=omega) only [rg,gD,simprocAttr,getC_wd]
  refine ⟨_,h2, ?_⟩
  simp (maxSteps:=1000000) (disch:=omega) only [rg,gD,simprocAttr,prsV]
  have sl:∀ a b,slSt .loose a b none=.loose:=fun _ _ => rfl
  have tk:∀ l:List Pr,List.take l.length (mv prV l)=mv prV l:=fun l => List.take_of_length_le (by rw [mv_len]; exact Nat.le_refl _)
  refine x_it (X.length+Y.length) (fun k σ H => ∃ x y acc v,k+x.length+y.length≤X.length+Y.length∧diffS X Y=acc++diffS x y∧Gro 0 H.n H.m 3 v (mv chV acc)∧x.length≤X.length∧y.length≤Y.length ∧
    σ=[(6,.fsl .loose 2 (mv prV x)),(8,.fsl .loose 2 (mv prV y)),(10,v)]) ⟨X,Y,[],.fsl .nil 3 [],by omega,rfl,.nil,Nat.le_refl _,Nat.le_refl _,rfl⟩ ?_
  rintro T k σ ⟨n,m⟩ hkk ⟨x,y,acc,v,hk,hd,hg,hx,hy,rfl⟩ hN hX' hR
  simp only at hg
  have hal:acc.length≤2000:=by have:=congrArg List.length hd; rw [List.length_append] at this; omega
  cases x with
  | nil =>
    cases y with
    | nil =>
      rw [diff_nil,List.append_nil] at hd
      simp (maxSteps:=1000000) (disch:=omega) only [rg,gD,simprocAttr,mv_nil]
      refine hX' _ _ _ ?_
      simp (maxSteps:=1000000) (disch:=omega) only [rg,gD,simprocAttr]
      obtain ⟨fz,st,f1,f2,f3⟩:=hg.frz (mv_closed chV_closed)
      refine x_frz fz ?_
      simp only [frzS,f3]
      simp (maxSteps:=1000000) (disch:=omega) only [rg,gD,simprocAttr]
      refine x_frz0 ?_
      simp (maxSteps:=1000000) (disch:=omega) only [rg,gD,simprocAttr]
      rw [hd]
      (refine fin_x rfl ?_ ?_<;>simp [pack,lo,loL,V.closed,closedL,mv_closed,chsV,chV_closed,mv_lo chV_lo])
    | cons q y =>
      rw [diff_r] at hd
      simp (maxSteps:=1000000) (disch:=omega) only [rg,gD,simprocAttr,mv_nil,mv_len,mv_cons,getC_pr0,getC_pr1,sl,show (0:Int) < ((y.length+1:Nat):Int) by omega,show ¬ ((y.length+1:Nat):Int)=0 by omega]
      refine app_oneG hg (by rw [mv_len]; omega) (by decide) fun v' fp ds hG hO => ?_
      rw [x_nx]
      refine ⟨by simp only [compat_nil], ?_⟩
      simp (maxSteps:=1000000) (disch:=omega) only [rg,gD,simprocAttr,sl,mv_len,tk]
      refine ⟨⟨by omega,by omega⟩, ?_⟩
      simp only [List.length_cons,List.length_nil] at hk hy
      exact hN _ _ (by omega) ⟨[],y,acc++[setC' q],v',by simp only [List.length_nil]; omega,by rw [hd]; simp,by simpa [mv,chV,setC'] using hG.low (Nat.zero_le _),by simp,by omega,rfl⟩
  | cons p x =>
    cases y with
    | nil =>
      rw [diff_l] at hd
      simp (maxSteps:=1000000) (disch:=omega) only [rg,gD,simprocAttr,mv_nil,mv_len,mv_cons,getC_pr0,getC_pr1,sl,show (0:Int) < ((x.length+1:Nat):Int) by omega,show ¬ ((x.length+1:Nat):Int)=0 by omega]
      refine app_oneG hg (by rw [mv_len]; omega) (by decide) fun v' fp ds hG hO => ?_
      rw [x_nx]
      refine ⟨by simp only [compat_nil], ?_⟩
      simp (maxSteps:=1000000) (disch:=omega) only [rg,gD,simprocAttr,sl,mv_len,tk]
      refine ⟨⟨by omega,by omega⟩, ?_⟩
      simp only [List.length_cons,List.length_nil] at hk hx
      exact hN _ _ (by omega) ⟨x,[],acc++[goneC p],v',by simp only [List.length_nil]; omega,by rw [hd]; simp,by simpa [mv,chV,goneC] using hG.low (Nat.zero_le _),by omega,by simp,rfl⟩
    | cons q y =>
      rw [diff_c] at hd
      simp only [List.length_cons] at hk hx hy
      cases g1:ltS p.1 q.1 with
      | true =>
        have g1':Op.bytesLess p.1 q.1=true:=g1
        rw [if_pos g1] at hd
        simp (maxSteps:=1000000) (disch:=omega) only [rg,gD,simprocAttr,mv_nil,mv_len,mv_cons,getC_pr0,getC_pr1,sl,show (0:Int) < ((x.length+1:Nat):Int) by omega,show ¬ ((x.length+1:Nat):Int)=0 by omega,show (0:Int) < ((y.length+1:Nat):Int) by omega,show ¬ ((y.length+1:Nat):Int)=0 by omega,g1']
        refine app_oneG hg (by rw [mv_len]; omega) (by decide) fun v' fp ds hG hO => ?_
        rw [x_nx]
        refine ⟨by simp only [compat_nil], ?_⟩
        simp (maxSteps:=1000000) (disch:=omega) only [rg,gD,simprocAttr,sl,mv_len,tk]
        refine ⟨⟨by omega,by omega⟩, ?_⟩
        exact hN _ _ (by omega) ⟨x,q::y,acc++[goneC p],v',by simp only [List.length_cons]; omega,by rw [hd]; simp,by simpa [mv,chV,goneC] using hG.low (Nat.zero_le _),by omega,by simp; omega,rfl⟩
      | false =>
        have g1':Op.bytesLess p.1 q.1=false:=g1
        rw [if_neg (by rw [g1]; simp)] at hd
        cases g2:ltS q.1 p.1 with
        | true =>
          have g2':Op.bytesLess q.1 p.1=true:=g2
          rw [if_pos g2] at hd
          simp (maxSteps:=1000000) (disch:=omega) only [rg,gD,simprocAttr,mv_nil,mv_len,mv_cons,getC_pr0,getC_pr1,sl,show (0:Int) < ((x.length+1:Nat):Int) by omega,show ¬ ((x.length+1:Nat):Int)=0 by omega,show (0:Int) < ((y.length+1:Nat):Int) by omega,show ¬ ((y.length+1:Nat):Int)=0 by omega,g1',g2']
          refine app_oneG hg (by rw [mv_len]; omega) (by decide) fun v' fp ds hG hO => ?_
          rw [x_nx]
          refine ⟨by simp only [compat_nil], ?_⟩
          simp (maxSteps:=1000000) (disch:=omega) only [rg,gD,simprocAttr,sl,mv_len,tk]
          refine ⟨⟨by omega,by omega⟩, ?_⟩
          exact hN _ _ (by omega) ⟨p::x,y,acc++[setC' q],v',by simp only [List.length_cons]; omega,by rw [hd]; simp,by simpa [mv,chV,setC'] using hG.low (Nat.zero_le _),by simp; omega,by omega,rfl⟩
        | false =>
          have g2':Op.bytesLess q.1 p.1=false:=g2
          rw [if_neg (by rw [g2]; simp)] at hd
          by_cases g3:p.2=q.2
          · rw [if_neg (fun h => h g3),List.nil_append] at hd
            simp (maxSteps:=1000000) (disch:=omega) only [rg,gD,simprocAttr,mv_nil,mv_len,mv_cons,getC_pr0,getC_pr1,sl,show (0:Int) < ((x.length+1:Nat):Int) by omega,show ¬ ((x.length+1:Nat):Int)=0 by omega,show (0:Int) < ((y.length+1:Nat):Int) by omega,show ¬ ((y.length+1:Nat):Int)=0 by omega,g1',g2',eq_true g3,tk]
            refine ⟨⟨by omega,by omega⟩,⟨by omega,by omega⟩, ?_⟩
            exact hN _ _ (by omega) ⟨x,y,acc,v,by omega,hd,hg,by omega,by omega,rfl⟩
          · rw [if_pos g3] at hd
            simp (maxSteps:=1000000) (disch:=omega) only [rg,gD,simprocAttr,mv_nil,mv_len,mv_cons,getC_pr0,getC_pr1,sl,show (0:Int) < ((x.length+1:Nat):Int) by omega,show ¬ ((x.length+1:Nat):Int)=0 by omega,show (0:Int) < ((y.length+1:Nat):Int) by omega,show ¬ ((y.length+1:Nat):Int)=0 by omega,g1',g2',eq_false g3,tk]
            refine app_oneG hg (by rw [mv_len]; omega) (by decide) fun v' fp ds hG hO => ?_
            rw [x_nx]
            refine ⟨by simp only [compat_nil], ?_⟩
            simp (maxSteps:=1000000) (disch:=omega) only [rg,gD,simprocAttr,sl,mv_len,tk]
            refine ⟨⟨by omega,by omega⟩,⟨by omega,by omega⟩, ?_⟩
            exact hN _ _ (by omega) ⟨x,y,acc++[setC' q],v',by omega,by rw [hd]; simp,by simpa [mv,chV,setC'] using hG.low (Nat.zero_le _),by omega,by omega,rfl⟩
end
def c146:C :=
  (.seq
 (.reg false [p (.mov (.k (.int .i64 0)))] [(0,.v 0),(1,.v 1)])
 (.seq
 (.seq
 (.reg false [p (.mov (.v 0)),
 p (.len false (.r 0)),
 p (.mov (.k (.int .i64 0)))] [(0,.v 0),(1,.v 1),(7,.r 1),(8,.r 0)])
 (.block 0
 (.loop
 (.seq
 (.reg false [p (.bin .lss (.v 8) (.v 7))] [(0,.v 0),(1,.v 1),(7,.v 7),(8,.v 8),(9,.r 0)])
 (.seq
 (.cond (.v 9)
 .skip
 (.exit 0))
 (.seq
 (.block 1
 (.seq
 (.reg false [p (.mov (.v 8)),
 p (.mov (.r 0))] [(0,.v 0),(1,.v 1),(5,.r 0),(7,.v 7),(8,.v 8)])
 (.seq
 (.reg false [p (.mov (.v 1)),
 p (.mov (.v 0)),
 p (.mov (.v 5)),
 p (.iad 3 (.r 1) (.r 0)),
 p (.load (some 3) (.r 0)),
 p (.call false (.r 4) [.r 0])] [(0,.v 0),(1,.v 1),(5,.v 5),(7,.v 7),(8,.v 8),(16,.r 0)])
 (.cond (.v 16)
 (.seq
 (.reg false [p (.mov (.v 5)),
 p (.mov (.r 0))] [(4,.r 0)])
 .ret)
 .skip))))
 (.reg false [p (.bin .add (.v 8) (.k (.int .i64 1))),
 p (.mov (.r 0))] [(0,.v 0),(1,.v 1),(7,.v 7),(8,.r 0)])))))))
 (.frz
 (.seq
 (.reg false [p (.mov (.k (.int .i64 (-1))))] [(4,.r 0)])
 .ret))))
def r146:List RV:=[.t 4]
theorem chk146:Chk Tryz.prog Tryz.f146 c146 r146:=⟨_,rfl,by kernel_rfl,by kernel_rfl⟩
theorem ena146:EnA Tryz.prog 146 19 c146 r146:=mkEnA (by kernel_rfl) Tryz.func146 (by kernel_rfl) chk146
def c82:C :=
  (.seq
 (.reg false [p (.mov (.k (.bool false)))] [(0,.v 0),(1,.v 1)])
 (.seq
 (.reg false [p (.mov (.v 0)),
 p (.mov (.v 1)),
 p (.call false (.k (.fn 146 [] [])) [.r 1,.r 0]),
 p (.bin .geq (.r 0) (.k (.int .i64 0))),
 p (.mov (.r 0))] [(4,.r 0)])
 .ret))
def r82:List RV:=[.t 4]
theorem chk82:Chk Tryz.prog Tryz.f82 c82 r82:=⟨_,rfl,by kernel_rfl,by kernel_rfl⟩
theorem ena82:EnA Tryz.prog 82 9 c82 r82:=mkEnA (by kernel_rfl) Tryz.func82 (by kernel_rfl) chk82
def c84:C :=
  (.seq
 (.reg false [p (.box 3 (.v 0)),
 p (.mov (.k (.bool false)))] [(1,.r 1)])
 (.seq
 (.reg false [p (.fad 0 (.v 1)),
 p (.load (none) (.r 0)),
 p (.len true (.r 0)),
 p (.bin .geq (.r 0) (.k (.int .i64 1))),
 p (.mov (.r 0)),
 ⟨.fad 0 (.v 1),some (0,true),[]⟩,
 ⟨.load (none) (.r 0),some (1,true),[]⟩,
 ⟨.len true (.r 0),some (2,true),[]⟩,
 ⟨.bin .leq (.r 0) (.k (.int .i64 32)),some (3,true),[]⟩,
 p (.pick (.r 4) (.r 0) (.k (.bool false))),
 p (.mov (.r 0)),
 ⟨.fad 1 (.v 1),some (0,true),[]⟩,
 ⟨.load (none) (.r 0),some (1,true),[]⟩,
 ⟨.len true (.r 0),some (2,true),[]⟩,
 ⟨.bin .leq (.r 0) (.k (.int .i64 200)),some (3,true),[]⟩,
 p (.pick (.r 4) (.r 0) (.k (.bool false))),
 p (.mov (.r 0)),
 ⟨.fad 2 (.v 1),some (0,true),[]⟩,
 ⟨.load (none) (.r 0),some (1,true),[]⟩,
 ⟨.un .not (.r 0),some (2,true),[]⟩,
 ⟨.mov (.r 0),some (3,true),[]⟩,
 ⟨.fad 1 (.v 1),some (0,false),[]⟩,
 ⟨.load (none) (.r 0),some (1,false),[]⟩,
 ⟨.bin .eql (.r 0) (.k (.str [])),some (2,false),[]⟩,
 ⟨.pick (.r 3) (.k (.bool true)) (.r 0),some (7,true),[]⟩,
 p (.pick (.r 8) (.r 0) (.k (.bool false))),
 p (.mov (.r 0))] [(2,.r 0)])
 .ret))
def r84:List RV:=[.t 2]
theorem en84:EnP Tryz.prog 84 29 c84 r84:=mkEnP (by kernel_rfl) Tryz.func84 (by kernel_rfl) ⟨_,rfl,by kernel_rfl,by kernel_rfl⟩
def c83:C :=
  (.seq
 (.reg false [p (.box 3 (.v 0)),
 p (.mov (.k (.bool false)))] [(1,.r 1)])
 (.seq
 (.reg false [p (.load (some 3) (.v 1)),
 p (.call true (.k (.fn 84 [] [])) [.r 0]),
 p (.un .not (.r 0)),
 p (.mov (.r 0))] [(2,.r 0)])
 .ret))
def r83:List RV:=[.t 2]
theorem en83:EnP Tryz.prog 83 6 c83 r83:=mkEnP (by kernel_rfl) Tryz.func83 (by kernel_rfl) ⟨_,rfl,by kernel_rfl,by kernel_rfl⟩
def c90:C :=
  (.seq
 (.reg false [p (.box 3 (.v 0)),
 p (.mov (.k (.bool false)))] [(1,.r 1)])
 (.seq
 (.reg false [p (.load (some 3) (.v 1)),
 p (.call true (.k (.fn 84 [] [])) [.r 0]),
 p (.un .not (.r 0)),
 p (.mov (.r 0))] [(2,.r 0)])
 .ret))
def r90:List RV:=[.t 2]
theorem en90:EnP Tryz.prog 90 6 c90 r90:=mkEnP (by kernel_rfl) Tryz.func90 (by kernel_rfl) ⟨_,rfl,by kernel_rfl,by kernel_rfl⟩
def c35:C :=
  (.seq
 (.reg false [p (.mov (.k (.str []))),
 p (.mov (.k (.int .i64 0)))] [(0,.v 0)])
 (.seq
 (.seq
 (.reg false [p (.mov (.v 0)),
 p (.call false (.k (.fn 82 [] [])) [.r 0,.k (.fn 83 [] [])])] [(0,.v 0),(13,.r 0)])
 (.cond (.v 13)
 (.seq
 (.reg false [p (.mov (.k (.str []))),
 p (.mov (.k (.int .i64 1)))] [(2,.r 1),(3,.r 0)])
 .ret)
 .skip))
 (.seq
 (.reg false [p (.mov (.v 0)),
 p (.len false (.r 0)),
 p (.call true (.k (.fn 85 [] [])) [.r 0,.k (.int .i64 1)]),
 p (.mov (.r 0)),
 p (.ext (.r 0) 0),
 p (.ext (.r 1) 1),
 p (.mov (.r 1)),
 p (.mov (.r 1))] [(0,.v 0),(4,.r 1),(5,.r 0)])
 (.seq
 (.seq
 (.reg false [p (.mov (.v 5)),
 p (.bin .neq (.r 0) (.k (.int .i64 0)))] [(0,.v 0),(4,.v 4),(21,.r 0)])
 (.cond (.v 21)
 (.seq
 (.reg false [p (.mov (.k (.str []))),
 p (.mov (.k (.int .i64 2)))] [(2,.r 1),(3,.r 0)])
 .ret)
 .skip))
 (.seq
 (.seq
 (.reg false [p (.mov (.v 0)),
 p (.len false (.r 0)),
 p (.mov (.k (.int .i64 0)))] [(4,.v 4),(22,.r 2),(23,.r 1),(24,.r 0)])
 (.block 0
 (.loop
 (.seq
 (.reg false [p (.bin .lss (.v 24) (.v 23))] [(4,.v 4),(22,.v 22),(23,.v 23),(24,.v 24),(25,.r 0)])
 (.seq
 (.cond (.v 25)
 .skip
 (.exit 0))
 (.seq
 (.block 1
 (.seq
 (.reg false [p (.iad 3 (.v 22) (.v 24)),
 p (.load (some 3) (.r 0)),
 p (.alloc 3 (.agg [.str [],.str [],.bool false])),
 p (.store (some 3) (.r 0) (.r 1))] [(4,.v 4),(7,.r 1),(22,.v 22),(23,.v 23),(24,.v 24)])
 (.seq
 (.reg false [p (.fad 0 (.v 7)),
 p (.load (none) (.r 0)),
 p (.call true (.k (.fn 69 [] [])) [.r 0]),
 p (.mov (.r 0)),
 p (.ext (.r 0) 0),
 p (.ext (.r 1) 1),
 p (.mov (.r 1)),
 p (.mov (.r 1))] [(4,.v 4),(7,.v 7),(8,.r 1),(22,.v 22),(23,.v 23),(24,.v 24)])
 (.seq
 (.seq
 (.reg false [p (.fad 2 (.v 7)),
 p (.load (none) (.r 0))] [(4,.v 4),(7,.v 7),(8,.v 8),(22,.v 22),(23,.v 23),(24,.v 24),(35,.r 0)])
 (.cond (.v 35)
 (.reg false [p (.mov (.v 4)),
 p (.bsl 1 [.k (.int .u8 1)]),
 p (.bts (.r 0)),
 p (.mov (.v 8)),
 p (.bsl 1 [.r 3,.r 1,.r 0]),
 p (.call true (.k (.fn 67 [] [])) [.r 0]),
 p (.mov (.r 0))] [(4,.r 0),(22,.v 22),(23,.v 23),(24,.v 24)])
 (.seq
 (.reg false [p (.fad 1 (.v 7)),
 p (.load (none) (.r 0)),
 p (.call true (.k (.fn 69 [] [])) [.r 0]),
 p (.mov (.r 0)),
 p (.ext (.r 0) 0),
 p (.ext (.r 1) 1),
 p (.mov (.r 1)),
 p (.mov (.r 1))] [(4,.v 4),(8,.v 8),(10,.r 1),(22,.v 22),(23,.v 23),(24,.v 24)])
 (.reg false [p (.mov (.v 4)),
 p (.bsl 1 [.k (.int .u8 0)]),
 p (.bts (.r 0)),
 p (.mov (.v 8)),
 p (.mov (.v 10)),
 p (.bsl 1 [.r 4,.r 2,.r 1,.r 0]),
 p (.call true (.k (.fn 67 [] [])) [.r 0]),
 p (.mov (.r 0))] [(4,.r 0),(22,.v 22),(23,.v 23),(24,.v 24)]))))
 (.seq
 (.reg false [p (.mov (.v 4)),
 p (.len true (.r 0)),
 p (.bin .gtr (.r 0) (.k (.int .i64 480)))] [(4,.v 4),(22,.v 22),(23,.v 23),(24,.v 24),(57,.r 0)])
 (.cond (.v 57)
 (.seq
 (.reg false [p (.mov (.k (.str []))),
 p (.mov (.k (.int .i64 2)))] [(2,.r 1),(3,.r 0)])
 .ret)
 .skip))))))
 (.reg false [p (.bin .add (.v 24) (.k (.int .i64 1))),
 p (.mov (.r 0))] [(4,.v 4),(22,.v 22),(23,.v 23),(24,.r 0)])))))))
 (.frz
 (.seq
 (.reg false [p (.mov (.v 4)),
 p (.mov (.r 0)),
 p (.mov (.k (.int .i64 0)))] [(2,.r 1),(3,.r 0)])
 .ret)))))))
def r35:List RV:=[.t 2,.t 3]
theorem en35:EnP Tryz.prog 35 60 c35 r35:=mkEnP (by kernel_rfl) Tryz.func35 (by kernel_rfl) ⟨_,rfl,by kernel_rfl,by kernel_rfl⟩
def c86:C :=
  (.seq
 (.reg false [p (.mov (.k (.int .i64 0)))] [(0,.v 0),(1,.v 1),(2,.v 2)])
 (.seq
 (.seq
 (.reg false [p (.load (none) (.v 0)),
 p (.bin .neq (.r 0) (.k (.int .i64 0)))] [(0,.v 0),(1,.v 1),(2,.v 2),(6,.r 0)])
 (.cond (.v 6)
 (.seq
 (.reg false [p (.mov (.k (.int .i64 0)))] [(3,.r 0)])
 .ret)
 .skip))
 (.seq
 (.reg false [p (.mov (.k (.int .i64 0)))] [(0,.v 0),(1,.v 1),(2,.v 2)])
 (.seq
 (.reg false [p (.load (none) (.v 1)),
 p (.load (none) (.v 2)),
 p (.call true (.k (.fn 87 [] [])) [.r 1,.r 0,.k (.int .i64 1)]),
 p (.mov (.r 0)),
 p (.ext (.r 0) 0),
 p (.ext (.r 1) 1),
 p (.ext (.r 2) 2),
 p (.mov (.r 2)),
 p (.store (none) (.v 2) (.r 2)),
 p (.store (none) (.v 0) (.r 2))] [(4,.r 2)])
 (.seq
 (.reg false [p (.mov (.v 4)),
 p (.mov (.r 0))] [(3,.r 0)])
 .ret)))))
def r86:List RV:=[.t 3]
theorem chk86:Chk Tryz.prog Tryz.f86 c86 r86:=⟨_,rfl,by kernel_rfl,by kernel_rfl⟩
theorem ena86:EnA Tryz.prog 86 15 c86 r86:=mkEnA (by kernel_rfl) Tryz.func86 (by kernel_rfl) chk86
def c88:C :=
  (.seq
 (.reg false [p (.mov (.k (.str [])))] [(0,.v 0),(1,.v 1),(2,.v 2)])
 (.seq
 (.seq
 (.reg false [p (.load (none) (.v 0)),
 p (.bin .neq (.r 0) (.k (.int .i64 0)))] [(0,.v 0),(1,.v 1),(2,.v 2),(6,.r 0)])
 (.cond (.v 6)
 (.seq
 (.reg false [p (.mov (.k (.str [])))] [(3,.r 0)])
 .ret)
 .skip))
 (.seq
 (.reg false [p (.mov (.k (.str [])))] [(0,.v 0),(1,.v 1),(2,.v 2)])
 (.seq
 (.reg false [p (.load (none) (.v 1)),
 p (.load (none) (.v 2)),
 p (.call true (.k (.fn 89 [] [])) [.r 1,.r 0]),
 p (.mov (.r 0)),
 p (.ext (.r 0) 0),
 p (.ext (.r 1) 1),
 p (.ext (.r 2) 2),
 p (.mov (.r 2)),
 p (.store (none) (.v 2) (.r 2)),
 p (.store (none) (.v 0) (.r 2))] [(4,.r 2)])
 (.seq
 (.reg false [p (.mov (.v 4)),
 p (.mov (.r 0))] [(3,.r 0)])
 .ret)))))
def r88:List RV:=[.t 3]
theorem chk88:Chk Tryz.prog Tryz.f88 c88 r88:=⟨_,rfl,by kernel_rfl,by kernel_rfl⟩
theorem ena88:EnA Tryz.prog 88 15 c88 r88:=mkEnA (by kernel_rfl) Tryz.func88 (by kernel_rfl) chk88
def c36:C :=
  (.seq
 (.reg false [p (.box 1 (.v 0)),
 p (.mov (.k (.fsl .nil 3 []))),
 p (.mov (.k (.int .i64 0)))] [(1,.r 2)])
 (.seq
 (.seq
 (.reg false [p (.load (none) (.v 1)),
 p (.len true (.r 0)),
 p (.bin .gtr (.r 0) (.k (.int .i64 480)))] [(1,.v 1),(14,.r 0)])
 (.cond (.v 14)
 (.seq
 (.reg false [p (.mov (.k (.fsl .nil 3 []))),
 p (.mov (.k (.int .i64 2)))] [(2,.r 1),(3,.r 0)])
 .ret)
 .skip))
 (.seq
 (.reg false [p (.alloc 1 (.int .i64 0)),
 p (.alloc 1 (.int .i64 0)),
 p (.store (none) (.r 1) (.k (.int .i64 0))),
 p (.store (none) (.r 1) (.k (.int .i64 0)))] [(1,.v 1),(4,.r 3),(5,.r 2)])
 (.seq
 (.reg false [p (.mkf 86 [] [.v 5,.v 1,.v 4]),
 p (.mov (.r 0))] [(1,.v 1),(4,.v 4),(5,.v 5),(6,.r 0)])
 (.seq
 (.reg false [p (.mkf 88 [] [.v 5,.v 1,.v 4]),
 p (.mov (.r 0))] [(1,.v 1),(4,.v 4),(5,.v 5),(6,.v 6),(7,.r 0)])
 (.seq
 (.reg false [p (.mov (.k (.fsl .nil 3 [])))] [(1,.v 1),(4,.v 4),(5,.v 5),(6,.v 6),(7,.v 7),(8,.r 0)])
 (.seq
 (.seq
 (.reg false [p (.mov (.v 6)),
 p (.call false (.r 0) []),
 p (.mov (.r 0))] [(1,.v 1),(4,.v 4),(5,.v 5),(6,.v 6),(7,.v 7),(8,.v 8),(9,.r 0)])
 (.block 0
 (.loop
 (.seq
 (.seq
 (.reg false [p (.mov (.v 9)),
 p (.bin .gtr (.r 0) (.k (.int .i64 0))),
 p (.mov (.r 0)),
 ⟨.load (none) (.v 5),some (0,true),[]⟩,
 ⟨.bin .eql (.r 0) (.k (.int .i64 0)),some (1,true),[]⟩,
 p (.pick (.r 2) (.r 0) (.k (.bool false)))] [(1,.v 1),(4,.v 4),(5,.v 5),(6,.v 6),(7,.v 7),(8,.v 8),(9,.v 9),(24,.r 0)])
 (.cond (.v 24)
 .skip
 (.exit 0)))
 (.seq
 (.block 1
 (.seq
 (.reg false [p (.mov (.v 6)),
 p (.call false (.r 0) []),
 p (.mov (.r 0))] [(1,.v 1),(4,.v 4),(5,.v 5),(6,.v 6),(7,.v 7),(8,.v 8),(9,.v 9),(10,.r 0)])
 (.seq
 (.seq
 (.reg false [p (.load (none) (.v 5)),
 p (.bin .eql (.r 0) (.k (.int .i64 0))),
 p (.mov (.r 0)),
 ⟨.mov (.v 10),some (0,true),[]⟩,
 ⟨.bin .gtr (.r 0) (.k (.int .i64 1)),some (1,true),[]⟩,
 p (.pick (.r 2) (.r 0) (.k (.bool false)))] [(1,.v 1),(4,.v 4),(5,.v 5),(6,.v 6),(7,.v 7),(8,.v 8),(9,.v 9),(10,.v 10),(34,.r 0)])
 (.cond (.v 34)
 (.seq
 (.reg false [p (.mov (.k (.fsl .nil 3 []))),
 p (.mov (.k (.int .i64 4)))] [(2,.r 1),(3,.r 0)])
 .ret)
 .skip))
 (.seq
 (.reg false [p (.mov (.v 7)),
 p (.call false (.r 0) []),
 p (.mov (.v 10)),
 p (.bin .eql (.r 0) (.k (.int .i64 1))),
 p (.build [.str [],.str [],.bool false] [(0,1,.r 2),(2,1,.r 0)]),
 p (.alloc 3 (.agg [.str [],.str [],.bool false])),
 p (.store (some 3) (.r 0) (.r 1))] [(1,.v 1),(4,.v 4),(5,.v 5),(6,.v 6),(7,.v 7),(8,.v 8),(9,.v 9),(11,.r 1)])
 (.seq
 (.seq
 (.reg false [p (.fad 2 (.v 11)),
 p (.load (none) (.r 0)),
 p (.un .not (.r 0))] [(1,.v 1),(4,.v 4),(5,.v 5),(6,.v 6),(7,.v 7),(8,.v 8),(9,.v 9),(11,.v 11),(42,.r 0)])
 (.cond (.v 42)
 (.reg false [p (.mov (.v 7)),
 p (.call false (.r 0) []),
 p (.fad 1 (.v 11)),
 p (.store (none) (.r 0) (.r 1))] [(1,.v 1),(4,.v 4),(5,.v 5),(6,.v 6),(7,.v 7),(8,.v 8),(9,.v 9),(11,.v 11)])
 .skip))
 (.reg false [p (.mov (.v 8)),
 p (.load (some 3) (.v 11)),
 p (.bsl 3 [.r 0]),
 p (.app 3 40 (.r 2) (.r 0)),
 p (.mov (.r 0))] [(1,.v 1),(4,.v 4),(5,.v 5),(6,.v 6),(7,.v 7),(8,.r 0),(9,.v 9)]))))))
 (.reg false [p (.mov (.v 9)),
 p (.bin .sub (.r 0) (.k (.int .i64 1))),
 p (.mov (.r 0))] [(1,.v 1),(4,.v 4),(5,.v 5),(6,.v 6),(7,.v 7),(8,.v 8),(9,.r 0)]))))))
 (.frz
 (.seq
 (.block 2
 (.seq
 (.reg false [p (.load (none) (.v 5)),
 p (.bin .neq (.r 0) (.k (.int .i64 0))),
 p (.mov (.r 0))] [(1,.v 1),(4,.v 4),(5,.v 5),(8,.v 8),(50,.r 0)])
 (.cond (.v 50)
 (.seq
 (.reg true [p (.load (none) (.v 5)),
 p (.mov (.k (.fsl .nil 3 []))),
 p (.mov (.r 1))] [(2,.r 1),(3,.r 0)])
 .ret)
 (.seq
 (.reg false [p (.load (none) (.v 4)),
 p (.load (none) (.v 1)),
 p (.len true (.r 0)),
 p (.bin .neq (.r 2) (.r 0)),
 p (.mov (.r 0)),
 ⟨.mov (.v 8),some (0,false),[]⟩,
 ⟨.call false (.k (.fn 82 [] [])) [.r 0,.k (.fn 90 [] [])],some (1,false),[]⟩,
 p (.pick (.r 2) (.k (.bool true)) (.r 0)),
 p (.mov (.r 0))] [(8,.v 8),(54,.r 0)])
 (.cond (.v 54)
 (.seq
 (.reg false [p (.mov (.k (.fsl .nil 3 []))),
 p (.mov (.k (.int .i64 4)))] [(2,.r 1),(3,.r 0)])
 .ret)
 .skip)))))
 (.seq
 (.reg false [p (.mov (.v 8)),
 p (.mov (.r 0)),
 p (.mov (.k (.int .i64 0)))] [(2,.r 1),(3,.r 0)])
 .ret))))))))))
def r36:List RV:=[.t 2,.t 3]
theorem en36:EnP Tryz.prog 36 64 c36 r36:=mkEnP (by kernel_rfl) Tryz.func36 (by kernel_rfl) ⟨_,rfl,by kernel_rfl,by kernel_rfl⟩
def c12:C :=
  (.seq
 (.reg false [p (.box 4 (.v 0)),
 p (.box 8 (.v 1)),
 p (.mov (.k (.bool false)))] [(2,.r 2),(3,.r 1)])
 (.seq
 (.reg false [p (.load (some 4) (.v 2)),
 p (.call true (.k (.fn 25 [] [])) [.r 0]),
 p (.store (some 4) (.v 2) (.r 0))] [(2,.v 2),(3,.v 3)])
 (.seq
 (.seq
 (.reg false [p (.load (some 4) (.v 2)),
 p (.call true (.k (.fn 17 [] [])) [.r 0]),
 p (.un .not (.r 0)),
 p (.mov (.r 0)),
 ⟨.fad 6 (.v 3),some (0,false),[]⟩,
 ⟨.fad 1 (.r 0),some (1,false),[]⟩,
 ⟨.load (none) (.r 0),some (2,false),[]⟩,
 ⟨.len false (.r 0),some (3,false),[]⟩,
 ⟨.bin .gtr (.r 0) (.k (.int .i64 20)),some (4,false),[]⟩,
 p (.pick (.r 5) (.k (.bool true)) (.r 0))] [(2,.v 2),(3,.v 3),(24,.r 0)])
 (.cond (.v 24)
 (.seq
 (.reg false [p (.call true (.k (.fn 27 [] [])) []),
 p (.mov (.r 0))] [(4,.r 0)])
 .ret)
 .skip))
 (.seq
 (.reg false [p (.load (some 4) (.v 2)),
 p (.load (some 8) (.v 3)),
 p (.call true (.k (.fn 14 [] [])) [.r 1,.r 0]),
 p (.mov (.r 0)),
 p (.ext (.r 0) 0),
 p (.ext (.r 1) 1),
 p (.alloc 4 (.agg [.int .i64 0,.int .i64 0,.fsl .nil 2 [],.fsl .nil 5 []])),
 p (.alloc 6 (.agg [.int .i64 0,.str [],.int .i64 0,.int .i64 0,.int .i64 0,.fsl .nil 5 []])),
 p (.store (some 4) (.r 1) (.r 3)),
 p (.store (some 6) (.r 1) (.r 3))] [(2,.v 2),(5,.r 3)])
 (.seq
 (.reg false [p (.load (some 4) (.v 2)),
 p (.load (some 4) (.v 5)),
 p (.call true (.k (.fn 30 [] [])) [.r 1,.r 0]),
 p (.mov (.r 0)),
 p (.ext (.r 0) 0),
 p (.ext (.r 1) 1),
 p (.mov (.r 1)),
 p (.mov (.r 1))] [(7,.r 1),(8,.r 0)])
 (.seq
 (.reg false [p (.mov (.v 7)),
 p (.call true (.k (.fn 35 [] [])) [.r 0]),
 p (.mov (.r 0)),
 p (.ext (.r 0) 0),
 p (.ext (.r 1) 1),
 p (.mov (.r 1)),
 p (.mov (.r 1))] [(7,.v 7),(8,.v 8),(9,.r 1),(10,.r 0)])
 (.seq
 (.reg false [p (.mov (.v 9)),
 p (.call true (.k (.fn 36 [] [])) [.r 0]),
 p (.mov (.r 0)),
 p (.ext (.r 0) 0),
 p (.ext (.r 1) 1),
 p (.mov (.r 1)),
 p (.mov (.r 1))] [(7,.v 7),(8,.v 8),(10,.v 10),(11,.r 1),(12,.r 0)])
 (.seq
 (.reg false [p (.call true (.k (.fn 27 [] [])) []),
 p (.mov (.r 0)),
 ⟨.mov (.v 8),some (0,true),[]⟩,
 ⟨.bin .eql (.r 0) (.k (.int .i64 0)),some (1,true),[]⟩,
 p (.pick (.r 2) (.r 0) (.k (.bool false))),
 p (.mov (.r 0)),
 ⟨.mov (.v 10),some (0,true),[]⟩,
 ⟨.bin .eql (.r 0) (.k (.int .i64 0)),some (1,true),[]⟩,
 p (.pick (.r 2) (.r 0) (.k (.bool false))),
 p (.mov (.r 0)),
 ⟨.mov (.v 12),some (0,true),[]⟩,
 ⟨.bin .eql (.r 0) (.k (.int .i64 0)),some (1,true),[]⟩,
 p (.pick (.r 2) (.r 0) (.k (.bool false))),
 p (.mov (.r 0)),
 ⟨.mov (.v 7),some (0,true),[]⟩,
 ⟨.mov (.v 11),some (1,true),[]⟩,
 ⟨.call true (.k (.fn 31 [] [])) [.r 1,.r 0],some (2,true),[]⟩,
 p (.pick (.r 3) (.r 0) (.k (.bool false))),
 p (.mov (.r 0))] [(4,.r 0)])
 .ret))))))))
def r12:List RV:=[.t 4]
theorem en12:EnP Tryz.prog 12 66 c12 r12:=mkEnP (by kernel_rfl) Tryz.func12 (by kernel_rfl) ⟨_,rfl,by kernel_rfl,by kernel_rfl⟩
def rightC (c:Chg):Bool:=decide (1≤c.key.length∧c.key.length≤32∧c.val.length≤200∧(c.gone=true→c.val=[]))
def chB (c:Chg):Str:=if c.gone=true then [1]++(textS c.key).1 else [0]++((textS c.key).1++(textS c.val).1)
def chsB (l:List Chg):Str:=(l.map chB).flatten
def packB (l:List Chg):Str:=(putS (l.length:Int) 1).1++chsB l
theorem getC_chg0 (c:Chg):getC none 0 (chV c)=some (.str c.key):=rfl
theorem ring_right (c:Chg):PCall Tryz.prog 84 [chV c] (.bool (rightC c)):=by
  refine en84 (by simp) (by simp [closedL,V.closed,chV]) ?_
  obtain ⟨k,v,g⟩:=c
  simp (maxSteps:=1000000) (disch:=omega) only [rg,gD,simprocAttr,c84,chV]
  by_cases c1:1≤k.length
  case neg =>
    simp (maxSteps:=1000000) (disch:=omega) only [rg,gD,simprocAttr,show ¬ (1:Int)≤k.length by omega]
    (refine fin_x rfl ?_ ?_<;>simp [pack,lo,loL,V.closed,closedL,mv_closed,rightC,c1])
  by_cases c2:k.length≤32
  case neg =>
    simp (maxSteps:=1000000) (disch:=omega) only [rg,gD,simprocAttr,show (1:Int)≤k.length by omega,show ¬ (k.length:Int)≤32 by omega]
    (refine fin_x rfl ?_ ?_<;>simp [pack,lo,loL,V.closed,closedL,mv_closed,rightC,c1,c2])
  by_cases c3:v.length≤200
  case neg =>
    simp (maxSteps:=1000000) (disch:=omega) only [rg,gD,simprocAttr,show (1:Int)≤k.length by omega,show (k.length:Int)≤32 by omega,show ¬ (v.length:Int)≤200 by omega]
    (refine fin_x rfl ?_ ?_<;>simp [pack,lo,loL,V.closed,closedL,mv_closed,rightC,c1,c2,c3])
  cases g with
  | false =>
    simp (maxSteps:=1000000) (disch:=omega) only [rg,gD,simprocAttr,show (1:Int)≤k.length by omega,show (k.length:Int)≤32 by omega,show (v.length:Int)≤200 by omega]
    (refine fin_x rfl ?_ ?_<;>simp [pack,lo,loL,V.closed,closedL,mv_closed,rightC,c1,c2,c3])
  | true =>
    by_cases c4:v=[]
    · simp (maxSteps:=1000000) (disch:=omega) only [rg,gD,simprocAttr,show (1:Int)≤k.length by omega,show (k.length:Int)≤32 by omega,show (v.length:Int)≤200 by omega,c4]
      (refine fin_x rfl ?_ ?_<;>simp [pack,lo,loL,V.closed,closedL,mv_closed,rightC,c1,c2,c3,c4])
    · simp (maxSteps:=1000000) (disch:=omega) only [rg,gD,simprocAttr,show (1:Int)≤k.length by omega,show (k.length:Int)≤32 by omega,show (v.length:Int)≤200 by omega,c4]
      (refine fin_x rfl ?_ ?_<;>simp [pack,lo,loL,V.closed,closedL,mv_closed,rightC,c1,c2,c3,c4])
theorem pack_clo (c:Chg):PCall Tryz.prog 83 [chV c] (.bool (!rightC c)):=by
  refine en83 (by simp) (by simp [closedL,V.closed,chV]) ?_
  have h:=ring_right c
  unfold chV at h
  simp (maxSteps:=1000000) (disch:=omega) only [rg,gD,simprocAttr,c83,chV]
  refine ⟨_,h, ?_⟩
  simp (maxSteps:=1000000) (disch:=omega) only [rg,gD,simprocAttr]
  (refine fin_x rfl ?_ ?_<;>simp [pack,lo,loL,V.closed,closedL,mv_closed])
theorem unpack_clo (c:Chg):PCall Tryz.prog 90 [chV c] (.bool (!rightC c)):=by
  refine en90 (by simp) (by simp [closedL,V.closed,chV]) ?_
  have h:=ring_right c
  unfold chV at h
  simp (maxSteps:=1000000) (disch:=omega) only [rg,gD,simprocAttr,c90,chV]
  refine ⟨_,h, ?_⟩
  simp (maxSteps:=1000000) (disch:=omega) only [rg,gD,simprocAttr]
  (refine fin_x rfl ?_ ?_<;>simp [pack,lo,loL,V.closed,closedL,mv_closed])
theorem chV_inj (a b:Chg) (h:chV a=chV b):a=b:=by
  obtain ⟨a1,a2,a3⟩:=a
  obtain ⟨b1,b2,b3⟩:=b
  simp only [chV,V.agg.injEq,List.cons.injEq,V.str.injEq,V.bool.injEq,and_true] at h
  simp [h]
theorem con_chg {st:St} {rows:List Chg} {H:Hp} {g:Nat} (hn:rows.length≤1000000) (hg:∀ x,PCall Tryz.prog g [chV x] (.bool (!rightC x))) :
    ACall Tryz.prog 82 [.fsl st 3 (mv chV rows),.fn g [] []] H [] (.bool (rows.any fun c => !rightC c)) [] (rows.length*0) :=
  con_of (k:=some 3) ena82 ena146 (by decide) (by decide) chV_inj chV_closed (fun _ => rfl) (by omega) rfl rfl (FpOk.nil H) (fun x hx H' _ _ => by simpa using (hg x).toA H' [])
section
theorem chsB_take {l:List Chg} {k:Nat} (h:k < l.length):chsB (l.take (k+1))=chsB (l.take k)++chB l[k]:=by
  unfold chsB
  rw [List.take_succ_eq_append_getElem h,List.map_append,List.flatten_append]; simp
theorem chsB_le {l:List Chg} (k:Nat):(chsB (l.take k)).length≤(chsB l).length:=by
  have:chsB l=chsB (l.take k)++chsB (l.drop k):=by
    unfold chsB; rw [← List.flatten_append,← List.map_append,List.take_append_drop]
  rw [this]; simp
theorem put_len1 {n:Nat} (h:n≤255):(putS (n:Int) 1).2=0:=by
  rw [putS_in ⟨by omega,by omega,by omega,by rw [show (1:Int).toNat=1 from rfl]; omega⟩]
set_option maxHeartbeats 1000000 in
theorem ring_pack (st:St) (cs:List Chg) (hr:∀ c∈cs,rightC c=true) (hl:cs.length≤255) (hb:(packB cs).length≤480):PCall Tryz.prog 35 [.fsl st 3 (mv chV cs)] (.tup [.str (packB cs),.int .i64 0]):=by
  refine en35 (by simp) (by simp [closedL,V.closed,mv_closed chV_closed]) ?_
  have hno:cs.any (fun c => !rightC c)=false:=by
    rw [List.any_eq_false]; intro c hc; simp [hr c hc]
  have hcon:=con_chg (st:=st) (rows:=cs) (g:=83) (by omega) pack_clo (H:=⟨0,fun _ => none⟩)
  rw [hno] at hcon
  have hput:=code_put (cs.length:Int) 1 (by omega)
  have hp2:=put_len1 hl
  have hp1:=put1_len (show cs.length < 256 by omega)
  have hB:(chsB cs).length+1≤480:=by have:=hb; unfold packB at this; rw [List.length_append,hp1] at this; omega
  unfold packB
  generalize putS (cs.length:Int) 1=N at *
  obtain ⟨N1,N2⟩:=N
  simp only at hp2 hp1
  subst hp2
  simp (maxSteps:=1000000) (disch:=omega) only [rg,gD,simprocAttr,c35]
  refine ⟨_,_,_,_,hcon, ?_⟩
  simp (maxSteps:=1000000) (disch:=omega) only [rg,gD,simprocAttr,mv_len]
  refine ⟨_,hput, ?_⟩
  simp (maxSteps:=1000000) (disch:=omega) only [rg,gD,simprocAttr,sV]
  refine x_it cs.length (fun k σ H => σ=[(4,.str (N1++chsB (cs.take k))),(22,.fsl st 3 (mv chV cs)),(23,.int .i64 (cs.length:Int)),(24,.int .i64 (k:Int))]) (by simp [chsB]) ?_
  rintro T k σ ⟨n,m⟩ hkk rfl hN hX hR
  by_cases hk:k < cs.length
  · have hc:=hr _ (List.getElem_mem hk)
    have htk:=chsB_take hk
    have hle:=chsB_le (l:=cs) (k+1)
    obtain ⟨c,hcd⟩:∃ c,cs[k]=c:=⟨_,rfl⟩
    rw [hcd] at hc htk
    have hlt:=hle
    rw [htk] at hlt
    rw [List.length_append] at hlt
    obtain ⟨key,val,gone⟩:=c
    simp only [rightC,decide_eq_true_eq] at hc
    have t1:=code_text key (by omega)
    have t2:=code_text val (by omega)
    simp (maxSteps:=1000000) (disch:=omega) only [rg,gD,simprocAttr,show (k:Int) < cs.length by omega,mv_get hk,hcd,Int.toNat_natCast,getC_chg0,chV]
    refine ⟨_,t1, ?_⟩
    cases gone with
    | true =>
      simp (maxSteps:=1000000) (disch:=omega) only [rg,gD,simprocAttr,sV]
      refine ⟨[1],rfl, ?_⟩
      simp (maxSteps:=1000000) (disch:=omega) only [rg,gD,simprocAttr]
      refine ⟨_,code_all .full [N1++chsB (cs.take k),[1],(textS key).1] (by simp) ?_, ?_⟩
      · simp [chB] at hlt ⊢; omega
      rw [show [N1++chsB (cs.take k),[1],(textS key).1].flatten=N1++chsB (cs.take (k+1)) by rw [htk]; simp [chB]]
      simp (maxSteps:=1000000) (disch:=omega) only [rg,gD,simprocAttr,show ¬ (480:Int) < ((N1++chsB (cs.take (k+1))).length:Int) by rw [List.length_append]; omega]
      exact hN _ _ hk rfl
    | false =>
      simp (maxSteps:=1000000) (disch:=omega) only [rg,gD,simprocAttr,sV]
      refine ⟨_,t2, ?_⟩
      simp (maxSteps:=1000000) (disch:=omega) only [rg,gD,simprocAttr,sV]
      refine ⟨[0],rfl, ?_⟩
      simp (maxSteps:=1000000) (disch:=omega) only [rg,gD,simprocAttr]
      refine ⟨_,code_all .full [N1++chsB (cs.take k),[0],(textS key).1,(textS val).1] (by simp) ?_, ?_⟩
      · simp [chB] at hlt ⊢; omega
      rw [show [N1++chsB (cs.take k),[0],(textS key).1,(textS val).1].flatten=N1++chsB (cs.take (k+1)) by rw [htk]; simp [chB]]
      simp (maxSteps:=1000000) (disch:=omega) only [rg,gD,simprocAttr,show ¬ (480:Int) < ((N1++chsB (cs.take (k+1))).length:Int) by rw [List.length_append]; omega]
      exact hN _ _ hk rfl
  · obtain rfl:k=cs.length:=by omega
    simp (maxSteps:=1000000) (disch:=omega) only [rg,gD,simprocAttr,show ¬ (cs.length:Int) < cs.length by omega]
    refine hX _ _ _ ?_
    simp (maxSteps:=1000000) (disch:=omega) only [rg,gD,simprocAttr]
    refine x_frz0 ?_
    simp (maxSteps:=1000000) (disch:=omega) only [rg,gD,simprocAttr]
    (refine fin_x rfl ?_ ?_<;>simp [pack,lo,loL,V.closed,closedL,mv_closed,List.take_length])
end
section
theorem unp_num (H:Hp) (b1 b2 b3:Nat) (s:Str) (a n a':Int) (hs:s.length≤140737488355328) (h1:b1 < H.n) (h2:b2 < H.n) (h3:b3 < H.n) (h12:b1≠b2) (h13:b1≠b3) (h23:b2≠b3)
    (m1:H.m b1=some (.arr 1 [.int .i64 0])) (m2:H.m b2=some (.arr 1 [.str s])) (m3:H.m b3=some (.arr 1 [.int .i64 a])) (hg:getS s a 1=(n,a',0)) :
    ACall Tryz.prog 86 [.ptr b1 0 0,.ptr b2 0 0,.ptr b3 0 0] H [b1,b2,b3] (.int .i64 n) [(b3,some (.arr 1 [.int .i64 a']))] 0:=by
  refine ena86 (by simp) (by simp [lowL,V.low,h1,h2,h3]) (fun id hid => ?_) (by simp) ?_
  · simp at hid
    rcases hid with rfl | rfl | rfl
    · exact ⟨h1,fun o ho => by rw [m1] at ho; simp at ho; subst ho; rfl⟩
    · exact ⟨h2,fun o ho => by rw [m2] at ho; simp at ho; subst ho; rfl⟩
    · exact ⟨h3,fun o ho => by rw [m3] at ho; simp at ho; subst ho; rfl⟩
  have q1:only [b1,b2,b3] H.m b1=some (.arr 1 [.int .i64 0]):=by simp [only,m1]
  have q2:only [b1,b2,b3] H.m b2=some (.arr 1 [.str s]):=by simp [only,m2]
  have q3:only [b1,b2,b3] H.m b3=some (.arr 1 [.int .i64 a]):=by simp [only,m3]
  generalize only [b1,b2,b3] H.m=m0 at q1 q2 q3
  have hc:=code_get s a 1 hs
  rw [hg] at hc
  simp (maxSteps:=1000000) (disch:=omega) only [rg,gD,simprocAttr,c86,q1,q2,q3]
  refine ⟨_,hc, ?_⟩
  simp (maxSteps:=1000000) (disch:=omega) only [rg,gD,simprocAttr,gV,q1,q3]
  exact fin_A (l:=[.int .i64 n]) rfl (.inl rfl) (by simp) (fun id => .inr (by
    by_cases e1:id=b1
    · subst e1; simp [appd,upd,h13,q1]
    · by_cases e3:id=b3
      · subst e3; simp [appd,upd,e1]
      · simp [appd,upd,e1,e3]))
theorem unp_txt (H:Hp) (b1 b2 b3:Nat) (s:Str) (a:Int) (t:Str) (a':Int) (hs:s.length≤140737488355328) (h1:b1 < H.n) (h2:b2 < H.n) (h3:b3 < H.n) (h12:b1≠b2) (h13:b1≠b3) (h23:b2≠b3)
    (m1:H.m b1=some (.arr 1 [.int .i64 0])) (m2:H.m b2=some (.arr 1 [.str s])) (m3:H.m b3=some (.arr 1 [.int .i64 a])) (hg:cutS s a=(t,a',0)) :
    ACall Tryz.prog 88 [.ptr b1 0 0,.ptr b2 0 0,.ptr b3 0 0] H [b1,b2,b3] (.str t) [(b3,some (.arr 1 [.int .i64 a']))] 0:=by
  refine ena88 (by simp) (by simp [lowL,V.low,h1,h2,h3]) (fun id hid => ?_) (by simp) ?_
  · simp at hid
    rcases hid with rfl | rfl | rfl
    · exact ⟨h1,fun o ho => by rw [m1] at ho; simp at ho; subst ho; rfl⟩
    · exact ⟨h2,fun o ho => by rw [m2] at ho; simp at ho; subst ho; rfl⟩
    · exact ⟨h3,fun o ho => by rw [m3] at ho; simp at ho; subst ho; rfl⟩
  have q1:only [b1,b2,b3] H.m b1=some (.arr 1 [.int .i64 0]):=by simp [only,m1]
  have q2:only [b1,b2,b3] H.m b2=some (.arr 1 [.str s]):=by simp [only,m2]
  have q3:only [b1,b2,b3] H.m b3=some (.arr 1 [.int .i64 a]):=by simp [only,m3]
  generalize only [b1,b2,b3] H.m=m0 at q1 q2 q3
  have hc:=code_cut s a hs
  rw [hg] at hc
  simp (maxSteps:=1000000) (disch:=omega) only [rg,gD,simprocAttr,c88,q1,q2,q3]
  refine ⟨_,hc, ?_⟩
  simp (maxSteps:=1000000) (disch:=omega) only [rg,gD,simprocAttr,cV,q1,q3]
  exact fin_A (l:=[.str t]) rfl (.inl rfl) (by simp) (fun id => .inr (by
    by_cases e1:id=b1
    · subst e1; simp [appd,upd,h13,q1]
    · by_cases e3:id=b3
      · subst e3; simp [appd,upd,e1]
      · simp [appd,upd,e1,e3]))
set_option maxHeartbeats 1000000 in
theorem ring_unpack (cs:List Chg) (hr:∀ c∈cs,rightC c=true) (hl:cs.length≤255) (hb:(packB cs).length≤480):PCall Tryz.prog 36 [.str (packB cs)] (.tup [chsV cs,.int .i64 0]):=by
  refine en36 (by simp) (by simp [closedL,V.closed]) ?_
  have hno:cs.any (fun c => !rightC c)=false:=by
    rw [List.any_eq_false]; intro c hc; simp [hr c hc]
  have hp2:=put_len1 hl
  have hp1:=put1_len (show cs.length < 256 by omega)
  have hsplit:∀ i (hi:i < cs.length),packB cs=(putS (cs.length:Int) 1).1++chsB (cs.take i)++chB cs[i]++chsB (cs.drop (i+1)):=fun i hi => by
    have e:chsB cs=chsB (cs.take i)++chB cs[i]++chsB (cs.drop (i+1)):=by
      have e1:chsB cs=chsB (cs.take (i+1))++chsB (cs.drop (i+1)):=by
        unfold chsB; rw [← List.flatten_append,← List.map_append,List.take_append_drop]
      rw [e1,chsB_take hi]
    rw [packB,e]; simp
  obtain ⟨s,hs⟩:∃ s,packB cs=s:=⟨_,rfl⟩
  have hg0:=getS_put (s:=s) (pre:=[]) (post:=chsB cs) (n:=cs.length) (k:=1) (by rw [← hs]; rfl) hp2
  simp only [List.length_nil,Int.natCast_zero,Int.zero_add] at hg0
  rw [hs] at hb ⊢
  rw [hs] at hsplit
  have hsl:(s.length:Int)=1+(chsB cs).length:=by rw [← hs,packB,List.length_append,hp1]; omega
  simp (maxSteps:=1000000) (disch:=omega) only [rg,gD,simprocAttr,c36,show ¬ (480:Int) < s.length by omega]
  refine ⟨_,_,_,_,unp_num _ 2 0 1 s 0 _ _ (by omega) (by simp) (by simp) (by simp) (by simp) (by simp) (by simp) (by simp (disch:=omega) only [upd_eq,upd_ne,wo_0,wo_1,wo_2]) (by simp (disch:=omega) only [upd_eq,upd_ne,wo_0,wo_1,wo_2]) (by simp (disch:=omega) only [upd_eq,upd_ne,wo_0,wo_1,wo_2]) hg0, ?_⟩
  simp (maxSteps:=1000000) (disch:=omega) only [rg,gD,simprocAttr]
  have e1:(1:Int).toNat=1:=rfl
  have b0:(putS 0 1)=([0],0):=by decide
  have b1:(putS 1 1)=([1],0):=by decide
  refine x_it cs.length (fun i σ H => 3≤H.n∧(H.m 0=some (.arr 1 [.str s])∧H.m 1=some (.arr 1 [.int .i64 (1+(chsB (cs.take i)).length:Nat)])∧H.m 2=some (.arr 1 [.int .i64 0]))∧∃ v,Gro 3 H.n H.m 3 v (mv chV (cs.take i)) ∧
    σ=[(1,.ptr 0 0 0),(4,.ptr 1 0 0),(5,.ptr 2 0 0),(6,.fn 86 [] [.ptr 2 0 0,.ptr 0 0 0,.ptr 1 0 0]),(7,.fn 88 [] [.ptr 2 0 0,.ptr 0 0 0,.ptr 1 0 0]),(8,v),(9,.int .i64 ((cs.length - i:Nat):Int))]) ⟨Nat.le_refl 3,⟨(by simp (disch:=omega) only [upd_eq,upd_ne,wo_0,wo_1,wo_2]),by simp [upd,chsB],(by simp (disch:=omega) only [upd_eq,upd_ne,wo_0,wo_1,wo_2])⟩,_,.nil,rfl⟩ ?_
  rintro T i σ ⟨n,m⟩ hii ⟨hn,⟨e0,e1',e2⟩,v,hG,rfl⟩ hN hX hR
  simp only at hn e0 e1' e2 hG
  by_cases hi:i < cs.length
  · have hc:=hr _ (List.getElem_mem hi)
    have hsp:=hsplit i hi
    have htk:=chsB_take hi
    have htl:mv chV (cs.take (i+1))=mv chV (cs.take i)++[chV cs[i]]:=by rw [List.take_succ_eq_append_getElem hi,mv,mv,List.map_append]; rfl
    obtain ⟨c,hcd⟩:∃ c,cs[i]=c:=⟨_,rfl⟩
    rw [hcd] at hc htk hsp htl
    have hal:(cs.take i).length≤1000000:=by simp; omega
    obtain ⟨pre,hpre⟩:∃ pre,(putS (cs.length:Int) 1).1++chsB (cs.take i)=pre:=⟨_,rfl⟩
    rw [hpre] at hsp
    have hpl:pre.length=1+(chsB (cs.take i)).length:=by rw [← hpre,List.length_append,hp1]
    rw [← hpl] at e1'
    have hnl:(1+(chsB (cs.take (i+1))).length)=pre.length+(chB c).length:=by rw [htk,List.length_append]; omega
    obtain ⟨key,val,gone⟩:=c
    simp only [rightC,decide_eq_true_eq] at hc
    generalize chsB (cs.drop (i+1))=post at hsp
    have hdec:(((cs.length - i:Nat):Int) - 1)=((cs.length - (i+1):Nat):Int):=by omega
    have n0:(0:Nat)≠n:=by omega
    have n1:(1:Nat)≠n:=by omega
    have n2:(2:Nat)≠n:=by omega
    cases gone with
    | true =>
      have hv:val=[]:=hc.2.2.2 rfl
      subst hv
      have g1:=getS_put (s:=s) (pre:=pre) (post:=(textS key).1++post) (n:=1) (k:=1) (by rw [hsp,b1]; simp [chB]) (by rw [b1])
      have g2:=cutS_put (s:=s) (pre:=pre++[1]) (post:=post) (t:=key) (by rw [hsp]; simp [chB]) (by omega)
      simp (maxSteps:=1000000) (disch:=omega) only [rg,gD,simprocAttr,show (0:Int) < ((cs.length - i:Nat):Int) by omega,e2]
      refine ⟨_,_,_,_,unp_num _ 2 0 1 s pre.length 1 _ (by omega) (by show 2 < n; omega) (by show 0 < n; omega) (by show 1 < n; omega) (by simp) (by simp) (by simp) (by simp (disch:=omega) only [upd_eq,upd_ne,wo_0,wo_1,wo_2,e2]) (by simp (disch:=omega) only [upd_eq,upd_ne,wo_0,wo_1,wo_2,e0]) (by simp (disch:=omega) only [upd_eq,upd_ne,wo_0,wo_1,wo_2,e1']) g1, ?_⟩
      simp (maxSteps:=1000000) (disch:=omega) only [rg,gD,simprocAttr,e2]
      refine ⟨_,_,_,_,unp_txt _ 2 0 1 s (pre.length+1) key _ (by omega) (by show 2 < n; omega) (by show 0 < n; omega) (by show 1 < n; omega) (by simp) (by simp) (by simp) (by simp (disch:=omega) only [upd_eq,upd_ne,wo_0,wo_1,wo_2,e2]) (by simp (disch:=omega) only [upd_eq,upd_ne,wo_0,wo_1,wo_2,e0]) (by simp (disch:=omega) only [upd_eq,upd_ne,wo_0,wo_1,wo_2]) (by simpa using g2), ?_⟩
      simp (maxSteps:=1000000) (disch:=omega) only [rg,gD,simprocAttr,e2]
      refine app_oneG ((hG.keep (show n≤n+1 by omega) (fun id h1 h2 => by simp (disch:=omega) only [upd_ne])).low (Nat.zero_le _)) (by rw [mv_len]; exact hal) (by decide) fun v' fp ds hG2 hO => ?_
      rw [x_nx]
      refine ⟨by simp only [compat_nil], ?_⟩
      simp only [] at hG2 hO ⊢
      generalize appd ds _=m5 at hG2 hO ⊢
      have o0:=hO 0 (by omega) (hG.not (by omega))
      have o1:=hO 1 (by omega) (hG.not (by omega))
      have o2:=hO 2 (by omega) (hG.not (by omega))
      simp (disch:=omega) only [upd_ne,upd_eq,e0,e2] at o0 o1 o2
      simp (maxSteps:=1000000) (disch:=omega) only [rg,gD,simprocAttr,hdec]
      refine hN _ _ hi ⟨by show 3≤n+2; omega,⟨o0, ?_,o2⟩,v', ?_,rfl⟩
      · show m5 1=_
        rw [o1,hnl]; simp [chB,textS_in (show key.length≤65535 by omega),beS_len]; omega
      · rw [htl]; exact hG2.low (by omega)
    | false =>
      have g1:=getS_put (s:=s) (pre:=pre) (post:=(textS key).1++((textS val).1++post)) (n:=0) (k:=1) (by rw [hsp,b0]; simp [chB]) (by rw [b0])
      have g2:=cutS_put (s:=s) (pre:=pre++[0]) (post:=(textS val).1++post) (t:=key) (by rw [hsp]; simp [chB]) (by omega)
      have g3:=cutS_put (s:=s) (pre:=pre++[0]++(textS key).1) (post:=post) (t:=val) (by rw [hsp]; simp [chB]) (by omega)
      have hkl:((textS key).1.length:Int)=2+key.length:=by rw [textS_in (show key.length≤65535 by omega)]; simp [beS_len]
      have g3':cutS s ((pre.length:Int)+1+2+key.length)=(val,(pre.length:Int)+1+2+key.length+2+val.length,0):=by
        have e:(((pre++[0]++(textS key).1).length:Nat):Int)=(pre.length:Int)+1+2+key.length:=by
          simp only [List.length_append,List.length_singleton]; omega
        rw [e] at g3; exact g3
      simp (maxSteps:=1000000) (disch:=omega) only [rg,gD,simprocAttr,show (0:Int) < ((cs.length - i:Nat):Int) by omega,e2]
      refine ⟨_,_,_,_,unp_num _ 2 0 1 s pre.length 0 _ (by omega) (by show 2 < n; omega) (by show 0 < n; omega) (by show 1 < n; omega) (by simp) (by simp) (by simp) (by simp (disch:=omega) only [upd_eq,upd_ne,wo_0,wo_1,wo_2,e2]) (by simp (disch:=omega) only [upd_eq,upd_ne,wo_0,wo_1,wo_2,e0]) (by simp (disch:=omega) only [upd_eq,upd_ne,wo_0,wo_1,wo_2,e1']) g1, ?_⟩
      simp (maxSteps:=1000000) (disch:=omega) only [rg,gD,simprocAttr,e2]
      refine ⟨_,_,_,_,unp_txt _ 2 0 1 s (pre.length+1) key _ (by omega) (by show 2 < n; omega) (by show 0 < n; omega) (by show 1 < n; omega) (by simp) (by simp) (by simp) (by simp (disch:=omega) only [upd_eq,upd_ne,wo_0,wo_1,wo_2,e2]) (by simp (disch:=omega) only [upd_eq,upd_ne,wo_0,wo_1,wo_2,e0]) (by simp (disch:=omega) only [upd_eq,upd_ne,wo_0,wo_1,wo_2]) (by simpa using g2), ?_⟩
      simp (maxSteps:=1000000) (disch:=omega) only [rg,gD,simprocAttr,e2]
      refine ⟨_,_,_,_,unp_txt _ 2 0 1 s _ val _ (by omega) (by show 2 < n+1; omega) (by show 0 < n+1; omega) (by show 1 < n+1; omega) (by simp) (by simp) (by simp) (by simp (disch:=omega) only [upd_eq,upd_ne,wo_0,wo_1,wo_2,e2]) (by simp (disch:=omega) only [upd_eq,upd_ne,wo_0,wo_1,wo_2,e0]) (by simp (disch:=omega) only [upd_eq,upd_ne,wo_0,wo_1,wo_2]) g3', ?_⟩
      simp (maxSteps:=1000000) (disch:=omega) only [rg,gD,simprocAttr,e2]
      refine app_oneG ((hG.keep (show n≤n+1 by omega) (fun id h1 h2 => by simp (disch:=omega) only [upd_ne])).low (Nat.zero_le _)) (by rw [mv_len]; exact hal) (by decide) fun v' fp ds hG2 hO => ?_
      rw [x_nx]
      refine ⟨by simp only [compat_nil], ?_⟩
      simp only [] at hG2 hO ⊢
      generalize appd ds _=m5 at hG2 hO ⊢
      have o0:=hO 0 (by omega) (hG.not (by omega))
      have o1:=hO 1 (by omega) (hG.not (by omega))
      have o2:=hO 2 (by omega) (hG.not (by omega))
      simp (disch:=omega) only [upd_ne,upd_eq,e0,e2] at o0 o1 o2
      simp (maxSteps:=1000000) (disch:=omega) only [rg,gD,simprocAttr,hdec]
      refine hN _ _ hi ⟨by show 3≤n+2; omega,⟨o0, ?_,o2⟩,v', ?_,rfl⟩
      · show m5 1=_
        rw [o1,hnl]; simp [chB,textS_in (show key.length≤65535 by omega),textS_in (show val.length≤65535 by omega),beS_len]; omega
      · rw [htl]; exact hG2.low (by omega)
  · obtain rfl:i=cs.length:=by omega
    rw [List.take_length] at hG e1'
    simp (maxSteps:=1000000) (disch:=omega) only [rg,gD,simprocAttr,show ¬ (0:Int) < ((cs.length - cs.length:Nat):Int) by omega]
    refine hX _ _ _ ?_
    simp (maxSteps:=1000000) (disch:=omega) only [rg,gD,simprocAttr]
    obtain ⟨fz,st,f1,f2,f3⟩:=hG.frz (mv_closed chV_closed)
    refine x_frz fz ?_
    have pt:∀ a b c,frzV fz m (.ptr a b c)=.ptr a b c:=fun a b c => by simp [frzV,snap,V.closed]
    have pf:∀ f a b c,frzV fz m (.fn f [] [.ptr a 0 0,.ptr b 0 0,.ptr c 0 0])=.fn f [] [.ptr a 0 0,.ptr b 0 0,.ptr c 0 0]:=fun f a b c => by simp [frzV,snap,V.closed,closedL]
    have cl:∀ v:V,v.closed=true→frzV fz m v=v:=fun v hv => by simp only [frzV,snap_cl hv]
    have i0:(0:Nat)∉fz:=fun h => by have:=f1 0 h; omega
    have i1:(1:Nat)∉fz:=fun h => by have:=f1 1 h; omega
    have i2:(2:Nat)∉fz:=fun h => by have:=f1 2 h; omega
    have d0:without fz m 0=some (.arr 1 [.str s]):=by simp [without,i0,e0]
    have d1:without fz m 1=some (.arr 1 [.int .i64 (1+(chsB cs).length:Nat)]):=by simp only [without,i1,if_false,e1']
    have d2:without fz m 2=some (.arr 1 [.int .i64 0]):=by simp [without,i2,e2]
    simp only [frzS,pt,pf,f3,cl (.int _ _) rfl,cl (.bool _) rfl]
    generalize without fz m=m' at d0 d1 d2 ⊢
    have hcon:=con_chg (st:=st) (rows:=cs) (g:=90) (by omega) unpack_clo (H:=⟨n,m'⟩)
    rw [hno] at hcon
    simp (maxSteps:=1000000) (disch:=omega) only [rg,gD,simprocAttr,d0,d1,d2,show ((1+(chsB cs).length:Nat):Int)=s.length by omega]
    refine ⟨_,_,_,_,hcon, ?_⟩
    simp (maxSteps:=1000000) (disch:=omega) only [rg,gD,simprocAttr]
    (refine fin_x rfl ?_ ?_<;>simp [pack,lo,loL,V.closed,closedL,mv_closed,chsV,mv_closed chV_closed,mv_lo chV_lo])
end
theorem put6_len {n:Int} (hn:0≤n∧n≤MT):(putS n 6).1.length=6:=by
  have e6:(6:Int).toNat=6:=rfl
  have p6:(256:Int) ^ 6=281474976710656:=by decide
  unfold MT at hn
  rw [putS_in ⟨by omega,by omega,hn.1,by rw [e6,p6]; omega⟩,e6]; simp [beS_len]
theorem sttsPr_mem {r:Rn} {k:Nat} {p:Pr}:p∈sttsPr r k↔∃ i,i < k∧p=sttPr r i (r.states.getD i zS):=by
  simp only [sttsPr,List.mem_map,List.mem_range]
  exact ⟨fun ⟨i,h,e⟩ => ⟨i,h,e.symm⟩,fun ⟨i,h,e⟩ => ⟨i,h,e.symm⟩⟩
theorem rowsL_mem {w:Wd} {p:Pr}:p∈rowsL w↔(∃ d∈w.dags,p=dagPr d)∨p∈metaPr w∨∃ r∈w.runs,p=runPr r∨∃ i,i < r.states.length∧p=sttPr r i (r.states.getD i zS):=by
  simp only [rowsL,runsPr,runPrs,List.mem_append,List.mem_map,List.mem_flatMap,List.mem_cons,sttsPr_mem]
  constructor
  · rintro (⟨d,h,e⟩ | h | h)
    · exact .inl ⟨d,h,e.symm⟩
    · exact .inr (.inl h)
    · exact .inr (.inr h)
  · rintro (⟨d,h,e⟩ | h | h)
    · exact .inl ⟨d,h,e.symm⟩
    · exact .inr (.inl h)
    · exact .inr (.inr h)
theorem meta_first {w:Wd} {p:Pr} (h:p∈metaPr w):p.1=[109]∧p.2=(putS w.now 6).1++(putS w.token 6).1∧(0 < w.now∨0 < w.token):=by
  unfold metaPr at h
  split at h
  · rename_i c; simp at h; subst h; exact ⟨rfl,rfl,c⟩
  · cases h
theorem put1_len' {a:Int} (ha:0≤a∧a < 256):(putS a 1).1.length=1:=by
  have:=put1_len (a:=a.toNat) (by omega); rwa [Int.toNat_of_nonneg ha.1] at this
/-! Maps of which the keys are texts. -/
def smV {β:Type} (f:β→V) (l:List (Str×β)):List (V×V):=l.map fun p => (V.str p.1,f p.2)
structure Ld where
  now:Int
  token:Int
  dags:List Dag
  runs:List Rn
  dm:List (Str×Dag)
  am:List (Str×Nat)
  bad:Bool
def natV (n:Nat):V:=.int .i64 (n:Int)
def rowV (sz:Nat):Option Nat→Nat→V
  | none,_ => .fsl .nil sz []
  | some i,n => .sl i 0 n
def RowOk (lo n:Nat) (m:Hm) (sz:Nat):Option Nat→List V→Prop
  | none,l => l=[]
  | some i,l => lo≤i∧i < n∧m i=some (.arr sz l)
theorem RowOk.keep {lo n n':Nat} {m m':Hm} {sz:Nat} {o:Option Nat} {l:List V} (h:RowOk lo n m sz o l) (hn:n≤n') (hm:∀ i,o=some i→m' i=m i):RowOk lo n' m' sz o l:=by
  cases o with
  | none => exact h
  | some i => exact ⟨h.1,Nat.lt_of_lt_of_le h.2.1 hn,(hm i rfl).trans h.2.2⟩
theorem RowOk.lt {lo n:Nat} {m:Hm} {sz:Nat} {o:Option Nat} {l:List V} (h:RowOk lo n m sz o l) {i:Nat} (e:o=some i):lo≤i∧i < n:=by subst e; exact ⟨h.1,h.2.1⟩
def dsOf (ids:List Nat) (m:Hm):List (Nat×Option Ob):=ids.map fun i => (i,m i)
theorem dsOf_at {m' m:Hm} {id:Nat}:∀ {ids:List Nat},appd (dsOf ids m') m id=if id∈ids then m' id else m id
  | [] => by simp [dsOf,appd]
  | i::ids => by
    show appd (dsOf ids m') (upd m i (m' i)) id=_
    rw [dsOf_at]
    by_cases h:id∈ids
    · simp [h]
    · by_cases e:id=i
      · subst e; simp [h,upd]
      · simp [h,upd,e]
def runC (r:Rn) (o:Option Nat):V:=.agg [.str r.key,.str r.dag.name,tasksV r.dag.tasks,.int .i64 r.is,rowV 5 o r.states.length]
def runsC (rs:List Rn) (os:List (Option Nat)):List V:=List.zipWith runC rs os
def ldV (s:Ld) (oD oR:Option Nat) (md ma:Nat):V:=.agg [.int .i64 s.now,.int .i64 s.token,rowV 2 oD s.dags.length,rowV 5 oR s.runs.length,.map md,.map ma,.bool s.bad]
structure Dis (oD oR:Option Nat) (os:List (Option Nat)):Prop where
  dr:∀ a,oD=some a→oR≠some a
  dl:∀ a (j:Nat),oD=some a→os[j]?≠some (some a)
  rl:∀ a (j:Nat),oR=some a→os[j]?≠some (some a)
  inj:∀ (i j:Nat) a,os[i]?=some (some a)→os[j]?=some (some a)→i=j
theorem Dis.nil:Dis none none []:=⟨by simp,by simp,by simp,by simp⟩
def idsL (oD oR:Option Nat) (os:List (Option Nat)):List Nat:=(oD::oR::os).filterMap id
structure LdR (lo n:Nat) (m:Hm) (L md ma:Nat) (s:Ld) (oD oR:Option Nat) (os:List (Option Nat)):Prop where
  box:m L=some (.arr 7 [ldV s oD oR md ma])
  md:m md=some (.mp (smV dagV s.dm))
  ma:m ma=some (.mp (smV natV s.am))
  dags:RowOk lo n m 2 oD (mv dagV s.dags)
  runs:RowOk lo n m 5 oR (runsC s.runs os)
  len:os.length=s.runs.length
  sts:∀ j (h:j < s.runs.length) (h2:j < os.length),RowOk lo n m 5 os[j] (mv sttV s.runs[j].states)
  nd:Dis oD oR os
  ids:∀ i∈idsL oD oR os,lo≤i∧i < n
theorem mem_ids {oD oR:Option Nat} {os:List (Option Nat)} {i:Nat}:i∈idsL oD oR os↔oD=some i∨oR=some i∨some i∈os:=by
  unfold idsL
  simp only [List.mem_filterMap,List.mem_cons]
  constructor
  · rintro ⟨o,h | h | h,e⟩
    · subst h; exact .inl e
    · subst h; exact .inr (.inl e)
    · cases e; exact .inr (.inr h)
  · rintro (h | h | h)
    · exact ⟨oD,.inl rfl,h⟩
    · exact ⟨oR,.inr (.inl rfl),h⟩
    · exact ⟨some i,.inr (.inr h),rfl⟩
theorem LdR.congr {lo n n':Nat} {m m':Hm} {L md ma:Nat} {s:Ld} {oD oR:Option Nat} {os:List (Option Nat)} (h:LdR lo n m L md ma s oD oR os) (hn:n≤n') (hL:m' L=m L) (hd:m' md=m md) (ha:m' ma=m ma) (hi:∀ i∈idsL oD oR os,m' i=m i):LdR lo n' m' L md ma s oD oR os:=by
  refine ⟨hL.trans h.box,hd.trans h.md,ha.trans h.ma,h.dags.keep hn fun i e => hi i (mem_ids.2 (.inl e)),h.runs.keep hn fun i e => hi i (mem_ids.2 (.inr (.inl e))),h.len,fun j h1 h2 => (h.sts j h1 h2).keep hn fun i e => hi i (mem_ids.2 (.inr (.inr (e ▸ List.getElem_mem h2)))),h.nd,fun i hh => ?_⟩
  have:=h.ids i hh; omega
theorem rowV_low {sz:Nat} {o:Option Nat} {k n:Nat} (h:∀ i,o=some i→i < n):(rowV sz o k).low n=true:=by
  cases o with
  | none => rfl
  | some i => simp [rowV,V.low,h i rfl]
theorem lowL_of {n:Nat}:∀ {l:List V},(∀ v∈l,v.low n=true)→lowL n l=true
  | [],_ => rfl
  | v::l,h => by
    have h2:lowL n l=true:=lowL_of (fun w hw => h w (List.mem_cons_of_mem v hw))
    simp only [lowL,h v (List.mem_cons_self ..),h2,Bool.and_self]
theorem smV_low {β:Type} {f:β→V} {l:List (Str×β)} {n:Nat} (h:∀ b,(f b).closed=true):(Ob.mp (smV f l)).low n=true:=by
  simp only [Ob.low,smV,List.map_map,Bool.and_eq_true]
  refine ⟨lowL_of fun v hv => ?_,lowL_of fun v hv => ?_⟩
  · obtain ⟨p,_,rfl⟩:=List.mem_map.1 hv; rfl
  · obtain ⟨p,_,rfl⟩:=List.mem_map.1 hv; exact V.low_closed _ (h _)
def fpL (L md ma:Nat) (oD oR:Option Nat) (os:List (Option Nat)):List Nat:=L::md::ma::idsL oD oR os
theorem LdR.low {lo n:Nat} {m:Hm} {L md ma:Nat} {s:Ld} {oD oR:Option Nat} {os:List (Option Nat)} (h:LdR lo n m L md ma s oD oR os) (h1:L < n) (h2:md < n) (h3:ma < n) :
    ∀ id∈fpL L md ma oD oR os,id < n∧∀ o,m id=some o→o.low n=true:=by
  have hD:∀ i,oD=some i→i < n:=fun i e => (h.ids i (mem_ids.2 (.inl e))).2
  have hR:∀ i,oR=some i→i < n:=fun i e => (h.ids i (mem_ids.2 (.inr (.inl e)))).2
  have hS:∀ i,some i∈os→i < n:=fun i e => (h.ids i (mem_ids.2 (.inr (.inr e)))).2
  intro id hid
  simp only [fpL,List.mem_cons] at hid
  rcases hid with rfl | rfl | rfl | hid
  · refine ⟨h1,fun o e => ?_⟩
    rw [h.box] at e; simp at e; subst e
    simp only [Ob.low,lowL,ldV,V.low,rowV_low hD,rowV_low hR,h2,h3,decide_true,Bool.and_self]
  · refine ⟨h2,fun o e => ?_⟩
    rw [h.md] at e; simp at e; subst e; exact smV_low dagV_closed
  · refine ⟨h3,fun o e => ?_⟩
    rw [h.ma] at e; simp at e; subst e; exact smV_low fun _ => rfl
  · refine ⟨(h.ids id hid).2,fun o e => ?_⟩
    rcases mem_ids.1 hid with rfl | rfl | hm
    · have:=h.dags.2.2; rw [this] at e; simp at e; subst e
      exact lowL_closed _ (mv_closed dagV_closed)
    · have:=h.runs.2.2; rw [this] at e; simp at e; subst e
      refine lowL_of fun v hv => ?_
      unfold runsC at hv
      obtain ⟨r,o,hr,ho,rfl⟩:∃ r o,r∈s.runs∧o∈os∧v=runC r o:=by
        obtain ⟨j,hj,rfl⟩:=List.mem_iff_getElem.1 hv
        rw [List.length_zipWith] at hj
        exact ⟨s.runs[j],os[j],List.getElem_mem _,List.getElem_mem _,by simp⟩
      simp only [runC,V.low,lowL,rowV_low (o:=o) (fun i e => hS i (e ▸ ho)),V.low_closed _ (tasksV_closed _),Bool.and_self]
    · obtain ⟨j,hj,ej⟩:=List.mem_iff_getElem.1 hm
      have hj2:j < s.runs.length:=by rw [← h.len]; exact hj
      have:=h.sts j hj2 hj
      rw [ej] at this
      rw [this.2.2] at e; simp at e; subst e
      exact lowL_closed _ (mv_closed sttV_closed)
theorem only_mem {fz:List Nat} {m:Hm} {i:Nat} (h:i∈fz):only fz m i=m i:=if_pos h
theorem LdR.only {lo:Nat} {H:Hp} {L md ma:Nat} {s:Ld} {oD oR:Option Nat} {os:List (Option Nat)} (h:LdR lo H.n H.m L md ma s oD oR os):LdR lo H.n (only (fpL L md ma oD oR os) H.m) L md ma s oD oR os :=
  h.congr (Nat.le_refl _) (only_mem (by simp [fpL])) (only_mem (by simp [fpL])) (only_mem (by simp [fpL])) fun i hi => only_mem (by simp [fpL,hi])
theorem LdR.ds {lo n n':Nat} {m m':Hm} {L md ma:Nat} {s:Ld} {oD oR:Option Nat} {os:List (Option Nat)} {ids:List Nat} (h:LdR lo n m' L md ma s oD oR os) (hn:n≤n') (h1:L∈ids) (h2:md∈ids) (h3:ma∈ids) (hi:∀ i∈idsL oD oR os,i∈ids):LdR lo n' (appd (dsOf ids m') m) L md ma s oD oR os :=
  h.congr hn (by rw [dsOf_at,if_pos h1]) (by rw [dsOf_at,if_pos h2]) (by rw [dsOf_at,if_pos h3]) fun i k => by rw [dsOf_at,if_pos (hi i k)]
def kill (o:Option Nat) (m:Hm):Hm:=fun id => if o=some id then none else m id
theorem dagB_len200 {d:Dag} (h:dagRightS d=0):(dagB d).length≤200:=by
  obtain ⟨a,_,c⟩:=dag_okn h
  have h16:=dag_nl h
  have p1:=putS_len1 d.tasks.length
  have p2:=textS_len d.name
  have hl:∀ l:List Task,(∀ t∈l,t.needs.length≤10)→(tsksB l).length≤l.length*18:=fun l => by
    induction l with
    | nil => simp [tsksB]
    | cons t l ih =>
      intro hl
      have h1:=ih fun x hx => hl x (by simp [hx])
      have h2:=tskB_len t
      have h3:=hl t (by simp)
      rw [tsksB_cons,List.length_append,List.length_cons]; omega
  have p3:=hl d.tasks c
  unfold dagB
  simp only [List.length_append]; omega
theorem pairs_small {w:Wd} (h:WR w) {p:Pr} (hp:p∈rowsS w):1≤p.1.length∧p.1.length≤18∧p.2.length≤200:=by
  rw [(rows_ok h).2.mem_iff,rowsL_mem] at hp
  rcases hp with ⟨d,hd,rfl⟩ | hm | ⟨r,hr,rfl | ⟨i,hi,rfl⟩⟩
  · have h1:=dagB_len200 (h.dags d hd)
    have h2:=dag_nl (h.dags d hd)
    simp only [dagPr,List.length_append,List.length_singleton]; omega
  · obtain ⟨e1,e2,_⟩:=meta_first hm
    have p1:=putS_len w.now 6
    have p2:=putS_len w.token 6
    rw [e1,e2,List.length_append,List.length_singleton]
    have e6:(6:Int).toNat=6:=rfl
    omega
  · have hR:=(h.runs r hr).2
    have h2:=dag_nl hR.dag
    have h3:=hR.name
    have p1:=putS_len1 r.is
    have p2:=textS_len r.dag.name
    simp only [runPr,List.length_append,List.length_singleton]; omega
  · have hR:=(h.runs r hr).2
    have h3:=hR.name
    have hs:=(standsS_iff _).1 (hR.stands _ (List.getElem_mem hi))
    have h4:=stBytes_len r.states[i]
    have h5:=put1_len (show i < 256 by have:=h.few r hr; omega)
    simp only [sttPr,List.length_append,List.length_singleton,List.getD_eq_getElem?_getD,List.getElem?_eq_getElem hi,Option.getD_some,h5]; omega
end Go.Proofs.YtkdeckmglbnfbaaGreat.Ev
