/-
  Part 5 of what the proof of the statement WorldEnds leans on: the evaluator, the functions in compact form, and what they answer.
-/
import Derived.Test.YtkdeckmglbnfbaaGreatM4
import Derived.Test.YtkdeckmglbnfbaaGreatProg
import Derived.KernelRfl
set_option linter.unusedSimpArgs false
set_option linter.unusedVariables false
set_option maxRecDepth 10000
namespace Go.Proofs.YtkdeckmglbnfbaaGreat.Ev
open Go
theorem lease_R {r:Rn} {now token:Int} (h:RnR r) (hz:(leaseS now token r).2.2=0) :
    RnR (leaseS now token r).1∧∃ i,∃ hi:i < (settleS now r).states.length,∃ s:Stt,s.token=token∧(leaseS now token r).1=withS (settleS now r) i s:=by
  have hq:=settle_R (now:=now) h
  unfold leaseS leaseQ at hz ⊢
  generalize settleS now r=q at hq hz ⊢
  split at hz
  · cases hz
  split at hz
  · cases hz
  split at hz
  · cases hz
  rename_i h1 h2 h3
  rw [if_neg h1,if_neg h2,if_neg h3]
  split at hz
  case h_2 => cases hz
  rename_i i hi
  simp only [hi]
  obtain ⟨hg,hp,_⟩:=fndS_get hi
  have hlen:=hq.len
  have h3':q.is=0:=Classical.not_not.1 h3
  rw [leaseAt_get (by omega) hg]
  simp only [dueP,Bool.and_eq_true,decide_eq_true_eq] at hp
  have htr:=hq.trs hg
  obtain ⟨hst,htp⟩:=trs_stands htr
  have hst:=(standsS_iff _).1 hst
  have htries:=(dag_tries hq.dag) _ (List.getElem_mem (l:=q.dag.tasks) (n:=i) (by omega))
  have hu:=untilS_range [now,(q.dag.tasks[i]'(by omega)).lease]
  have hr:q.states[i].result=[]:=(hst.2.2.2.2.2).resolve_right (by omega)
  have hl:(tleaseS (q.dag.tasks[i]'(by omega)) q.states[i] now token).1=⟨2,q.states[i].tried+1,untilS [now,(q.dag.tasks[i]'(by omega)).lease],token,q.states[i].result⟩:=by
    unfold tleaseS; rw [if_neg h1,if_neg (by omega)]
  rw [hl]
  have hMT:MT=1099511627776:=rfl
  have hnt:∀ s∈q.states,s.token≠token:=fun s hs e => h2 (List.any_eq_true.2 ⟨s,hs,by simp [tokP,e]⟩)
  obtain ⟨p1,p2,p3⟩:=hq.parts
  have hdone:∀ s:Stt,s.is=2→doneL (q.states.set i s)=doneL q.states:=fun s e => doneL_set hg (by rw [e,hp.1]; rfl)
  refine ⟨?_,i,hg,_,rfl,rfl⟩
  have hm:(⟨2,q.states[i].tried+1,untilS [now,(q.dag.tasks[i]'(by omega)).lease],token,q.states[i].result⟩:Stt)∈q.states.set i ⟨2,q.states[i].tried+1,untilS [now,(q.dag.tasks[i]'(by omega)).lease],token,q.states[i].result⟩:=List.mem_set hg _
  have hmem:∀ s∈q.states.set i (⟨2,q.states[i].tried+1,untilS [now,(q.dag.tasks[i]'(by omega)).lease],token,q.states[i].result⟩:Stt),s∈q.states∨s.is=2:=fun s hs => (List.mem_or_eq_of_mem_set hs).imp (fun h => h) (fun e => by rw [e])
  refine ⟨hq.name,hq.dag,by simp [withS,hlen], ?_,(nbad_iff (by simp [withS,hlen])).2 ⟨⟨by simp [withS,hlen],fun j hj hj2 => ?_,fun j hj hpj k hk hkj => ?_⟩,fun j hj k0 k5 => ?_,fun j hj k0 => ?_⟩,fun e => ?_,fun _ => ?_⟩
  · simp only [withS]
    rw [h3']
    unfold kindS
    rw [if_neg,if_neg,if_neg]
    · intro z; have:=cntS_zero.1 z _ hm; simp at this
    · have:cntS [4] (q.states.set i (⟨2,q.states[i].tried+1,untilS [now,(q.dag.tasks[i]'(by omega)).lease],token,q.states[i].result⟩:Stt))=0:=cntS_zero.2 fun s hs => by
        rcases hmem s hs with hs | hs
        · have:=hq.no4 h3' s hs; simpa using this
        · simp [hs]
      omega
    · intro z; have:=cntS_all.1 z _ hm; simp at this
  · simp only [withS,List.getElem_set]
    split
    · rename_i e; subst e
      refine trightS_yes ((standsS_iff _).2 ⟨⟨by simp,by simp,by simp only; omega, ?_,hu.1,hu.2⟩,⟨by simp only; omega,by simp only; omega,by simp; omega,by simp [hr],.inl hr⟩⟩) ⟨?_,.inr (.inr (.inl ⟨rfl,by simp only; omega⟩))⟩
      · obtain ⟨t1,t2⟩:=htp; simp only; omega
      · obtain ⟨t1,t2⟩:=htp; simp only; omega
    · exact p1.trs j (by simpa [withS] using hj) hj2
  · simp only [withS,List.length_set] at hj hk
    simp only [withS,List.getElem_set] at hpj ⊢
    by_cases e1:i=j
    · rw [if_pos e1] at hpj ⊢
      rw [if_neg (by omega)]
      exact hnt _ (List.getElem_mem hk)
    · rw [if_neg e1] at hpj ⊢
      by_cases e2:i=k
      · rw [if_pos e2]
        exact fun e => hnt _ (List.getElem_mem hj) e.symm
      · rw [if_neg e2]
        exact p1.toks j hj hpj k hk hkj
  · simp only [withS,List.length_set] at hj
    simp only [withS] at k0 k5 ⊢
    rw [ready_L (hdone _ rfl)]
    simp only [List.getElem_set] at k0 k5
    by_cases e:i=j
    · subst e; exact p2 i hg (by omega) (by omega)
    · rw [if_neg e] at k0 k5; exact p2 j hj k0 k5
  · simp only [withS,List.length_set] at hj
    simp only [withS] at k0 ⊢
    rw [ready_L (hdone _ rfl)]
    simp only [List.getElem_set] at k0
    by_cases e:i=j
    · rw [if_pos e] at k0; cases k0
    · rw [if_neg e] at k0; exact p3 j hj k0
  · simp only [withS] at e; omega
  · refine cntS_zero.2 fun s hs => ?_
    rcases hmem s hs with hs | hs
    · have:=hq.no5 h3' s hs; simpa using this
    · simp [hs]
def AnsOk (f:Task→Stt→Stt×Int):Prop:=∀ t s,trightS t s=true→s.is=2→(f t s).2=0→trightS t (f t s).1=true∧(f t s).1.is≠0∧(f t s).1.is≠5∧((f t s).1.token=s.token∨(f t s).1.token=0)
theorem told_R {r:Rn} {now token:Int} {f:Task→Stt→Stt×Int} (hf:AnsOk f) (h:RnR r) (hz:(toldS now f token r).2=0):RnR (toldS now f token r).1∧∃ i,∃ hi:i < (settleS now r).states.length,∃ s:Stt,(s.token=(settleS now r).states[i].token∨s.token=0)∧(toldS now f token r).1=mendS (withS (settleS now r) i s):=by
  have hq:=settle_R (now:=now) h
  unfold toldS toldQ at hz ⊢
  generalize settleS now r=q at hq hz ⊢
  split at hz
  · cases hz
  rename_i i hi
  try simp only [hi]
  obtain ⟨hg,hp,_⟩:=fndS_get hi
  have hlen:=hq.len
  simp only [holdP,Bool.and_eq_true,decide_eq_true_eq] at hp
  have e1:q.dag.tasks[i]?=some (q.dag.tasks[i]'(by omega)):=List.getElem?_eq_getElem (by omega)
  have e2:q.states[i]?=some q.states[i]:=List.getElem?_eq_getElem hg
  simp only [e1,e2] at hz ⊢
  split at hz
  · rename_i hne; exact absurd hz hne
  · rename_i hne
    have hne':(f (q.dag.tasks[i]'(by omega)) q.states[i]).2=0:=Classical.not_not.1 hne
    rw [if_neg hne]
    obtain ⟨f1,f2,f3,f4⟩:=hf _ _ (hq.trs hg) hp.1 hne'
    exact ⟨mend_R (set_Pm hq hg hp.1 f1 f2 f3 f4),i,hg,_,f4,rfl⟩
theorem cancel_R {r:Rn} {now:Int} (h:RnR r) (hz:(cancelS now r).2=0):RnR (cancelS now r).1∧(cancelS now r).1.states=canL (settleS now r).states (settleS now r).states.length:=by
  have hq:=settle_R (now:=now) h
  unfold cancelS cancelQ at hz ⊢
  generalize settleS now r=q at hq hz ⊢
  split at hz
  · cases hz
  rename_i hne
  rw [if_neg hne]
  have h3':q.is=0:=Classical.not_not.1 hne
  refine ⟨?_,rfl⟩
  have hlen:=hq.len
  have hg:=canL_all' q.states
  have hl:=canL_len q.states q.states.length
  obtain ⟨p1,p2,p3⟩:=hq.parts
  have hcan:∀ s∈canL q.states q.states.length,s.is=3∨s.is=5:=fun s hs => by
    obtain ⟨j,hj,rfl⟩:=List.mem_iff_getElem.1 hs
    rw [hg j hj]
    have hj':j < q.states.length:=by rwa [hl] at hj
    have hm:=List.getElem_mem hj'
    have n4:=hq.no4 h3' _ hm
    have n5:=hq.no5 h3' _ hm
    have hst:=((standsS_iff _).1 (hq.stands _ hm)).1
    unfold tcancelS
    split
    · exact .inr rfl
    · rename_i c; left; omega
  have hdone:doneL (canL q.states q.states.length)=doneL q.states:=by
    unfold doneL
    apply List.ext_getElem
    · simp [hl]
    · intro j h1 h2
      simp only [List.getElem_map]
      rw [hg j (by simpa using h1),tcancel_done]
  -- a task that was open
  obtain ⟨s0,hs0,ho⟩:∃ s∈q.states,s.is=0∨s.is=1∨s.is=2:=by
    have hk:=hq.kind
    rw [h3'] at hk
    unfold kindS at hk
    split at hk
    · cases hk
    split at hk
    · cases hk
    split at hk
    · cases hk
    · rename_i c
      refine Classical.byContradiction fun hn => c (cntS_zero.2 fun s hs => ?_)
      have:¬ (s.is=0∨s.is=1∨s.is=2):=fun e => hn ⟨s,hs,e⟩
      simpa using this
  obtain ⟨j0,hj0,rfl⟩:=List.mem_iff_getElem.1 hs0
  have h5:(canL q.states q.states.length)[j0]'(by rw [hl]; exact hj0)∈canL q.states q.states.length:=List.getElem_mem _
  have h5':((canL q.states q.states.length)[j0]'(by rw [hl]; exact hj0)).is=5:=by
    rw [hg]; unfold tcancelS; rw [if_pos ho]
  have ht:∀ s:Stt,(tcancelS s).token=s.token∨(tcancelS s).token=0:=fun s => by unfold tcancelS; split<;>simp
  refine ⟨hq.name,hq.dag,hl.trans hlen, ?_,(nbad_iff (hl.trans hlen)).2 ⟨⟨hl.trans hlen,fun j hj hj2 => ?_,fun j hj hp i hi hij => ?_⟩,fun j hj k0 k5 => ?_,fun j hj k0 => ?_⟩,fun e => (by cases e),fun e => (by cases e)⟩
  · show (3:Int)=kindS _
    unfold kindS
    rw [if_neg,if_neg,if_pos]
    · exact cntS_zero.2 fun s hs => by have:=hcan s hs; simp; omega
    · have h4:cntS [4] (canL q.states q.states.length)=0:=cntS_zero.2 fun s hs => by have:=hcan s hs; simp; omega
      show ¬ 0 < cntS [4] (canL q.states q.states.length)
      omega
    · intro z; have:=cntS_all.1 z _ h5; simp [h5'] at this
  · rw [hg j hj]; exact tright_cancel (p1.trs j (by rwa [hl] at hj) hj2)
  · rw [hg j hj] at hp ⊢
    rw [hg i hi]
    have hpe:=(ht (q.states[j]'(by rwa [hl] at hj))).resolve_right (by omega)
    rw [hpe] at hp ⊢
    rcases ht (q.states[i]'(by rwa [hl] at hi)) with e | e
    · rw [e]; exact p1.toks j (by rwa [hl] at hj) hp i (by rwa [hl] at hi) hij
    · rw [e]; omega
  · rw [ready_L hdone]
    have hj':j < q.states.length:=by rwa [hl] at hj
    rw [hg j hj] at k0 k5
    refine p2 j hj' ?_ ?_
    · intro e; unfold tcancelS at k5; rw [if_pos (.inl e)] at k5; exact k5 rfl
    · intro e; unfold tcancelS at k5; rw [if_neg (by omega)] at k5; exact k5 e
  · have:=hcan _ (List.getElem_mem hj); omega
theorem new_R {key:Str} {d:Dag} (hk:1≤key.length∧key.length≤16) (hd:dagRightS d=0):RnR (newS key d):=by
  have htr:=dag_tries hd
  refine mend_R ⟨hk,hd,rfl,⟨startS_len key d,fun j hj hj2 => ?_,fun j hj hp => ?_⟩,fun s hs => ?_,fun j hj k0 => ?_⟩
  · simp only [startS,List.getElem_replicate]
    have:=htr _ (List.getElem_mem hj2)
    refine trightS_yes ((standsS_iff _).2 (by simp [zS])) ⟨by simp [zS]; exact Int.le_trans (by omega) this.1,.inl ⟨rfl,rfl,rfl⟩⟩
  · simp [startS,zS] at hp
  · simp only [startS,List.mem_replicate] at hs; rw [hs.2]; simp [zS]
  · simp [startS,zS] at k0
inductive TkR:List Int→List Int→Prop where
  | nil:TkR [] []
  | cons {a b:Int} {l l':List Int}:(b=a∨b=0)→TkR l l'→TkR (a::l) (b::l')
theorem TkR.refl:∀ l,TkR l l
  | [] => .nil
  | a::l => .cons (.inl rfl) (.refl l)
theorem TkR.trans {a b:List Int} (h:TkR a b):∀ {c},TkR b c→TkR a c:=by
  induction h with
  | nil => intro c k; exact k
  | cons e _ ih =>
    intro c k
    cases k with
    | cons e2 k => exact .cons (by omega) (ih k)
theorem TkR.app {a b c d:List Int} (h:TkR a b) (k:TkR c d):TkR (a++c) (b++d):=by
  induction h with
  | nil => exact k
  | cons e _ ih => exact .cons e ih
theorem TkR.of_get:∀ {l l':List Int},l'.length=l.length→(∀ i (h:i < l.length) (h':i < l'.length),l'[i]=l[i]∨l'[i]=0)→TkR l l'
  | [],[],_,_ => .nil
  | [],_::_,h,_ => by simp at h
  | _::_,[],h,_ => by simp at h
  | a::l,b::l',h,k => .cons (k 0 (by simp) (by simp)) (TkR.of_get (by simpa using h) fun i h1 h2 => by
    have:=k (i+1) (by simpa using h1) (by simpa using h2)
    simpa only [List.getElem_cons_succ] using this)
theorem TkR.mem {l l':List Int} (h:TkR l l'):∀ t∈l',t∈l∨t=0:=by
  induction h with
  | nil => intro t ht; simp at ht
  | cons e _ ih =>
    intro t ht
    rcases List.mem_cons.1 ht with rfl | ht
    · rcases e with rfl | e
      · exact .inl (by simp)
      · exact .inr e
    · exact (ih t ht).imp (fun h => by simp [h]) (fun h => h)
theorem TkR.tk {tok:Int} {l l':List Int} (h:TkR l l') (h0:0≤tok) (k:Tk tok l):Tk tok l':=by
  refine ⟨fun t ht => ?_, ?_⟩
  · rcases h.mem t ht with h | h
    · exact k.1 t h
    · omega
  · have k2:=k.2
    clear k
    induction h with
    | nil => exact k2
    | @cons a b l l' e hh ih =>
      simp only [List.filter_cons] at k2 ⊢
      by_cases cb:0 < b
      · have e':b=a:=e.resolve_right (by omega)
        subst e'
        simp only [cb,decide_true,if_true,List.nodup_cons] at k2 ⊢
        refine ⟨fun hm => k2.1 ?_,ih k2.2⟩
        rw [List.mem_filter] at hm ⊢
        exact ⟨(hh.mem b hm.1).resolve_right (by omega),hm.2⟩
      · simp only [cb,decide_false,Bool.false_eq_true,if_false]
        refine ih ?_
        split at k2
        · exact (List.nodup_cons.1 k2).2
        · exact k2
theorem Tk.mono {t t':Int} {l:List Int} (h:Tk t l) (hl:t≤t'):Tk t' l:=⟨fun x hx => Int.le_trans (h.1 x hx) hl,h.2⟩
theorem Tk.new {tok:Int} {P Q:List Int} {x:Int} (h:Tk tok (P++x::Q)) (h0:0≤tok):Tk (tok+1) (P++(tok+1)::Q):=by
  have hx:∀ t∈P++Q,t≤tok:=fun t ht => h.1 t (by rcases List.mem_append.1 ht with h | h<;>simp [h])
  have hn:((P++Q).filter fun t => decide (0 < t)).Nodup:=by
    have:=h.2
    rw [List.filter_append] at this ⊢
    simp only [List.filter_cons] at this
    split at this
    · rw [List.nodup_append] at this ⊢
      exact ⟨this.1,(List.nodup_cons.1 this.2.1).2,fun a ha b hb => this.2.2 a ha b (by simp [hb])⟩
    · exact this
  refine ⟨fun t ht => ?_, ?_⟩
  · rcases List.mem_append.1 ht with h | h
    · have:=hx t (by simp [h]); omega
    · rcases List.mem_cons.1 h with rfl | h
      · exact Int.le_refl _
      · have:=hx t (by simp [h]); omega
  · rw [List.filter_append] at hn ⊢
    simp only [List.filter_cons,show 0 < tok+1 by omega,decide_true,if_true]
    rw [List.nodup_append] at hn ⊢
    refine ⟨hn.1,List.nodup_cons.2 ⟨fun hm => ?_,hn.2.1⟩,fun a ha b hb => ?_⟩
    · have:=hx _ (List.mem_append_right _ (List.mem_filter.1 hm).1); omega
    · rcases List.mem_cons.1 hb with rfl | hb
      · have:=hx a (List.mem_append_left _ (List.mem_filter.1 ha).1); omega
      · exact hn.2.2 a ha b hb
theorem Tk.zeros {tok:Int} {A B Z:List Int} (h:Tk tok (A++B)) (h0:0≤tok) (hz:∀ t∈Z,t=0):Tk tok (A++(Z++B)):=by
  refine ⟨fun t ht => ?_, ?_⟩
  · rcases List.mem_append.1 ht with k | k
    · exact h.1 t (by simp [k])
    · rcases List.mem_append.1 k with k | k
      · rw [hz t k]; exact h0
      · exact h.1 t (by simp [k])
  · have e:Z.filter (fun t => decide (0 < t))=[]:=by
      rw [List.filter_eq_nil_iff]; intro t ht; rw [hz t ht]; simp
    have:=h.2
    rw [List.filter_append] at this ⊢
    rw [List.filter_append,e]; exact this
/-! The tokens of runs. -/
theorem toks_set {ss:List Stt} {i:Nat} {s:Stt} (hi:i < ss.length) (h:s.token=ss[i].token∨s.token=0):TkR (tokS ss) (tokS (ss.set i s)):=by
  refine TkR.of_get (by simp [tokS]) fun j h1 h2 => ?_
  simp only [tokS,List.getElem_map,List.getElem_set]
  split
  · rename_i e; subst e; exact h
  · exact .inl rfl
theorem toks_can (ss:List Stt):TkR (tokS ss) (tokS (canL ss ss.length)):=by
  refine TkR.of_get (by simp [tokS,canL_len]) fun j h1 h2 => ?_
  simp only [tokS,List.getElem_map]
  rw [canL_all']
  unfold tcancelS; split<;>simp
theorem toks_mendL (ts:List Task) (ss:List Stt):TkR (tokS ss) (tokS (mendL ts ss ss.length)):=by
  refine TkR.of_get (by simp [tokS,mendL_len]) fun j h1 h2 => ?_
  simp only [tokS,List.getElem_map]
  rw [mendL_all']
  split
  · unfold treadyS; split<;>simp
  · exact .inl rfl
theorem toks_mend (r:Rn):TkR (tokS r.states) (tokS (mendS r).states):=by
  unfold mendS; split
  · exact toks_can _
  · exact toks_mendL _ _
theorem toks_one {now:Int} {r:Rn} (h:RnR r):TkR (tokS r.states) (tokS (oneS now r).states):=by
  by_cases c:overS (untilS [now]) r.states r.states.length < 0
  · rw [oneS_none c]; exact .refl _
  · obtain ⟨hi,e1,e2⟩:=overS_spec (untilS [now]) r.states r.states.length (Nat.le_refl _) (by omega)
    have ho:overS (untilS [now]) r.states r.states.length=((overS (untilS [now]) r.states r.states.length).toNat:Nat):=by omega
    generalize (overS (untilS [now]) r.states r.states.length).toNat=i at hi e1 e2 ho
    have hlen:=h.len
    rw [oneS_some ho (by omega) hi]
    have:texpireS r.dag.tasks[i] r.states[i] now=(tfailS r.dag.tasks[i] r.states[i] r.states[i].due).1:=by
      unfold texpireS; rw [if_neg (by omega)]
    obtain ⟨f1,f2,f3,f4⟩:=fail_R (now:=r.states[i].due) (h.trs hi) e1
    rw [this]
    exact (toks_set hi (.inr f4)).trans (toks_mend (withS r i (tfailS r.dag.tasks[i] r.states[i] r.states[i].due).1))
theorem toks_settle {now:Int} {r:Rn} (h:RnR r):TkR (tokS r.states) (tokS (settleS now r).states):=by
  unfold settleS
  generalize r.states.length=k
  have:∀ k,RnR (rndS now r k)∧TkR (tokS r.states) (tokS (rndS now r k).states):=fun k => by
    induction k with
    | zero => exact ⟨h,.refl _⟩
    | succ k ih => exact ⟨one_R ih.1,ih.2.trans (toks_one ih.1)⟩
  exact (this k).2
theorem toks_told {r:Rn} {now token:Int} {f:Task→Stt→Stt×Int} (hf:AnsOk f) (h:RnR r) (hz:(toldS now f token r).2=0):TkR (tokS r.states) (tokS (toldS now f token r).1.states):=by
  obtain ⟨_,i,hi,s,hs,e⟩:=told_R hf h hz
  rw [e]
  exact (toks_settle h).trans ((toks_set hi hs).trans (toks_mend (withS (settleS now r) i s)))
theorem toks_cancel {r:Rn} {now:Int} (h:RnR r) (hz:(cancelS now r).2=0):TkR (tokS r.states) (tokS (cancelS now r).1.states):=by
  rw [(cancel_R h hz).2]
  exact (toks_settle h).trans (toks_can _)
theorem toks_new (key:Str) (d:Dag):∀ t∈tokS (newS key d).states,t=0:=by
  have:∀ s∈(newS key d).states,s.token=0:=mendS_all (p:=fun s => s.token=0) (fun s hs => by unfold tcancelS; split<;>simp [hs]) (fun s hs => by unfold treadyS; split<;>simp [hs]) fun s hs => by
    simp only [startS,List.mem_replicate] at hs; rw [hs.2]; rfl
  intro t ht
  simp only [tokS,List.mem_map] at ht
  obtain ⟨s,hs,rfl⟩:=ht
  exact this s hs
theorem toksR_ap (a b:List Rn):toksR (a++b)=toksR a++toksR b:=by simp [toksR]
theorem toksR_cons (r:Rn) (l:List Rn):toksR (r::l)=tokS r.states++toksR l:=by simp [toksR]
theorem toksR_at {l:List Rn} {i:Nat} (hi:i < l.length):toksR l=toksR (l.take i)++(tokS l[i].states++toksR (l.drop (i+1))):=by
  have:=List.take_append_drop i l
  rw [List.drop_eq_getElem_cons hi] at this
  conv => lhs; rw [← this]
  rw [toksR_ap,toksR_cons]
theorem toksR_set {l:List Rn} {i:Nat} {r:Rn} (hi:i < l.length):toksR (l.set i r)=toksR (l.take i)++(tokS r.states++toksR (l.drop (i+1))):=by
  rw [List.set_eq_take_append_cons_drop,if_pos hi,toksR_ap,toksR_cons]
theorem WR.set {w:Wd} (h:WR w) {i:Nat} (hi:i < w.runs.length) {r:Rn} {tok:Int} (hk:r.key=w.runs[i].key) (hd:r.dag=w.runs[i].dag) (hr:RnR r) (ht:0≤tok∧tok≤MT) (htk:Tk tok (toksR (w.runs.set i r))) :
    WR { w with runs:=w.runs.set i r,token:=tok }:=by
  have hm:=List.getElem_mem hi
  refine ⟨h.now,ht,h.ndags,by simp only [List.length_set]; exact h.nruns,h.rdags, ?_,h.dags,fun x hx => ?_,htk⟩
  · have:runsN (w.runs.set i r)=runsN w.runs:=by
      unfold runsN
      rw [List.map_set,hk]
      have e:(w.runs.map (·.key))[i]'(by simpa using hi)=w.runs[i].key:=by simp
      rw [← e]; exact List.set_getElem_self _
    simp only [this]; exact h.rruns
  · rcases List.mem_or_eq_of_mem_set hx with hx | rfl
    · exact h.runs x hx
    · exact ⟨hd ▸ (h.runs _ hm).1,hr⟩
theorem rise_put {l:List Str} {t:Str} (hr:Rise l) (hn:t∉l):Rise (l.take (lbS t l)++t::l.drop (lbS t l)):=by
  have hlb:=lb_rise hr t
  have hpw:l.Pairwise fun a b => ltS a b=true:=List.pairwise_iff_getElem.2 fun i j hi hj hij => rise_lt hr j i hj hij
  have hP:(l.take (lbS t l)++t::l.drop (lbS t l)).Pairwise fun a b => ltS a b=true:=by
    rw [List.pairwise_append]
    refine ⟨hpw.sublist (List.take_sublist _ _),List.pairwise_cons.2 ⟨fun a ha => ?_,hpw.sublist (List.drop_sublist _ _)⟩,fun a ha b hb => ?_⟩
    · obtain ⟨j,hj,rfl⟩:=List.mem_drop_iff_getElem.1 ha
      have:=hlb.hi (lbS t l+j) (by omega) (by omega)
      rcases lt_not this with e | e
      · exact absurd (e ▸ List.getElem_mem _) hn
      · exact e
    · obtain ⟨j,hj,rfl⟩:=List.mem_take_iff_getElem.1 ha
      rcases List.mem_cons.1 hb with rfl | hb
      · exact hlb.lo j (by omega) (by omega)
      · obtain ⟨k,hk,rfl⟩:=List.mem_drop_iff_getElem.1 hb
        exact rise_lt hr _ j (by omega) (by omega)
  intro i hi
  exact List.pairwise_iff_getElem.1 hP i (i+1) (by omega) hi (by omega)
theorem keeps (w:Wd) (c:Cmd) (h:WR w):WR (kindW w c).1:=by
  have hMT:MT=1099511627776:=rfl
  have htold:∀ f:Task→Stt→Stt×Int,AnsOk f→WR (toldW w f c.token).1:=fun f hf => by
    unfold toldW
    split
    · exact h
    · rename_i i hi
      obtain ⟨hg,_,_⟩:=fndS_get hi
      rw [getD_get hg]
      split
      · exact h
      · rename_i hz
        have hz':(toldS w.now f c.token w.runs[i]).2=0:=Classical.not_not.1 hz
        have hm:=List.getElem_mem hg
        have hr:=(h.runs _ hm).2
        have hs:Shp w.runs[i] (toldS w.now f c.token w.runs[i]).1:=by
          obtain ⟨_,j,hj,s,_,e⟩:=told_R hf hr hz'
          rw [e]; exact (settleS_shp _ _).trans ((withS_shp _ _ _).trans (mendS_shp _))
        refine h.set hg hs.key hs.dag (told_R hf hr hz').1 h.token ?_
        rw [toksR_set hg]
        refine TkR.tk ((TkR.refl _).app ((toks_told hf hr hz').app (.refl _))) h.token.1 ?_
        rw [← toksR_at hg]; exact h.toks
  unfold kindW
  by_cases k1:c.kind=1
  · rw [if_pos k1]; unfold graphS; repeat' split
    all_goals first | exact h | skip
    rename_i h1 h2 h3
    have hd:dagRightS c.dag=0:=Classical.not_not.1 h1
    have hmem:∀ d∈w.dags,d∈putD w.dags c.dag:=fun d hd => by
      unfold putD
      rw [← List.take_append_drop (lbD c.dag.name w.dags) w.dags] at hd
      rcases List.mem_append.1 hd with k | k
      · exact List.mem_append_left _ k
      · exact List.mem_append_right _ (List.mem_cons_of_mem _ k)
    refine ⟨h.now,h.token, ?_,h.nruns, ?_,h.rruns,fun d hx => ?_,fun r hr => ⟨hmem _ (h.runs r hr).1,(h.runs r hr).2⟩,h.toks⟩
    · simp only [putD,List.length_append,List.length_take,List.length_cons,List.length_drop]; omega
    · have:=rise_put h.rdags h2
      simp only [putD,dagsN,List.map_append,List.map_cons,List.map_take,List.map_drop]
      exact this
    · rcases mem_put (e:=0) hx with hx | rfl
      · exact h.dags d hx
      · exact hd
  rw [if_neg k1]; by_cases k2:c.kind=2
  · rw [if_pos k2]; unfold beginS; repeat' split
    all_goals first | exact h | skip
    rename_i hk1 hin hk3 hk4
    have hin':c.name∈dagsN w.dags:=Classical.not_not.1 hin
    obtain ⟨hi,hnm⟩:=lbD_get h.rdags hin'
    rw [getD_get hi]
    have hm:=List.getElem_mem hi
    have hnk:=new_key c.key w.dags[lbD c.name w.dags]
    have hnew:=new_R (key:=c.key) (by omega) (h.dags _ hm)
    have hnd:(newS c.key w.dags[lbD c.name w.dags]).dag=w.dags[lbD c.name w.dags]:=(mendS_shp _).dag
    have htk:=toks_new c.key w.dags[lbD c.name w.dags]
    generalize newS c.key w.dags[lbD c.name w.dags]=nr at hnk hnew hnd htk
    have hput:putR w.runs nr=w.runs.take (lbR c.key w.runs)++nr::w.runs.drop (lbR c.key w.runs):=by
      unfold putR; rw [hnk,if_neg hk3,Nat.add_zero]
    refine ⟨h.now,h.token,h.ndags, ?_,h.rdags, ?_,h.dags,fun d hx => ?_, ?_⟩
    · simp only [hput,List.length_append,List.length_take,List.length_cons,List.length_drop]; omega
    · have:=rise_put h.rruns hk3
      simp only [hput,runsN,List.map_append,List.map_cons,List.map_take,List.map_drop,hnk]
      exact this
    · simp only [hput] at hx
      rcases mem_put (e:=0) hx with hx | rfl
      · exact h.runs d hx
      · exact ⟨hnd ▸ hm,hnew⟩
    · simp only [hput,toksR_ap,toksR_cons]
      refine Tk.zeros ?_ h.token.1 htk
      rw [← toksR_ap,List.take_append_drop]; exact h.toks
  rw [if_neg k2]; by_cases k3:c.kind=3
  · rw [if_pos k3]; unfold pollS; split
    · exact h
    rename_i htok
    split
    · exact h
    · rename_i i hi
      obtain ⟨hg,hp,_⟩:=fndS_get hi
      rw [getD_get hg]
      have hm:=List.getElem_mem hg
      have hr:=(h.runs _ hm).2
      have hz:(leaseS w.now (w.token+1) w.runs[i]).2.2=0:=by simpa [leaseP] using hp
      obtain ⟨hR,j,hj,s,hs,e⟩:=lease_R hr hz
      have hsh:Shp w.runs[i] (leaseS w.now (w.token+1) w.runs[i]).1:=by rw [e]; exact (settleS_shp _ _).trans (withS_shp _ _ _)
      have h0:=h.token
      refine h.set hg hsh.key hsh.dag hR ⟨by omega,by omega⟩ ?_
      rw [toksR_set hg,e]
      have h1:Tk w.token (toksR (w.runs.take i)++(tokS (settleS w.now w.runs[i]).states++toksR (w.runs.drop (i+1)))):=by
        refine TkR.tk ((TkR.refl _).app ((toks_settle hr).app (.refl _))) h.token.1 ?_
        rw [← toksR_at hg]; exact h.toks
      generalize settleS w.now w.runs[i]=q at hj h1
      have e1:tokS q.states=(tokS q.states).take j++(tokS q.states)[j]'(by simpa [tokS] using hj)::(tokS q.states).drop (j+1):=by
        rw [← List.drop_eq_getElem_cons,List.take_append_drop]
      have e2:tokS (withS q j s).states=(tokS q.states).take j++(w.token+1)::(tokS q.states).drop (j+1):=by
        simp only [withS,tokS,List.map_set,hs]
        rw [List.set_eq_take_append_cons_drop,if_pos (by simpa using hj)]
      rw [e1] at h1
      rw [e2]
      have:=Tk.new (P:=toksR (w.runs.take i)++(tokS q.states).take j) (Q:=(tokS q.states).drop (j+1)++toksR (w.runs.drop (i+1))) (x:=(tokS q.states)[j]'(by simpa [tokS] using hj)) (tok:=w.token) (by simpa only [List.append_assoc,List.cons_append] using h1) h.token.1
      simpa only [List.append_assoc,List.cons_append] using this
  rw [if_neg k3]; by_cases k4:c.kind=4
  · rw [if_pos k4]; exact htold _ fun t s h1 h2 _ => by obtain ⟨a,b,c,d⟩:=beat_R (now:=w.now) h1 h2; exact ⟨a,b,c,.inl d⟩
  rw [if_neg k4]; by_cases k5:c.kind=5
  · rw [if_pos k5]; exact htold _ fun t s h1 h2 h3 => by obtain ⟨a,b,c,d⟩:=done_R h1 h2 h3; exact ⟨a,b,c,.inr d⟩
  rw [if_neg k5]; by_cases k6:c.kind=6
  · rw [if_pos k6]; exact htold _ fun t s h1 h2 _ => by obtain ⟨a,b,c,d⟩:=fail_R (now:=w.now) h1 h2; exact ⟨a,b,c,.inr d⟩
  rw [if_neg k6]; by_cases k7:c.kind=7
  · rw [if_pos k7]; unfold cancelW; split
    · exact h
    split
    · exact h
    · rename_i hc hz
      obtain ⟨hi,hnm⟩:=lbR_get h.rruns (Classical.not_not.1 hc)
      rw [getD_get hi] at hz ⊢
      have hm:=List.getElem_mem hi
      have hr:=(h.runs _ hm).2
      have hz':(cancelS w.now w.runs[lbR c.key w.runs]).2=0:=Classical.not_not.1 hz
      have hs:Shp w.runs[lbR c.key w.runs] (cancelS w.now w.runs[lbR c.key w.runs]).1:=by
        unfold cancelS cancelQ at hz' ⊢
        split at hz'
        · cases hz'
        · rename_i hq; rw [if_neg hq]
          have hs:=settleS_shp w.now w.runs[lbR c.key w.runs]
          exact ⟨hs.key,hs.dag,(canL_len _ _).trans hs.len⟩
      refine h.set hi hs.key hs.dag (cancel_R hr hz').1 h.token ?_
      rw [toksR_set hi]
      refine TkR.tk ((TkR.refl _).app ((toks_cancel hr hz').app (.refl _))) h.token.1 ?_
      rw [← toksR_at hi]; exact h.toks
  rw [if_neg k7]; by_cases k8:c.kind=8
  · rw [if_pos k8]; unfold tickW; split
    · exact h
    · rename_i c
      exact ⟨by have:=h.now; simp only; omega,h.token,h.ndags,h.nruns,h.rdags,h.rruns,h.dags,h.runs,h.toks⟩
  rw [if_neg k8]; by_cases k9:c.kind=9
  · rw [if_pos k9]; unfold stateW; split<;>exact h
  rw [if_neg k9]; split<;>exact h
theorem acc_all {d:Dag} (h:dagRightS d=0):∀ j,j < d.tasks.length→Acc (ndR d.tasks) j:=by
  obtain ⟨_,hr,_⟩:=dag_okn h
  have hin:∀ k,∀ x∈needsOf d.tasks k,0≤x∧x < d.tasks.length:=fun k x hx => by
    rcases Nat.lt_or_ge k d.tasks.length with h | h
    · rw [needsOf_get h] at hx; exact hr _ (List.getElem_mem h) x hx
    · simp [needsOf,h] at hx
  obtain ⟨m,h1,h2,h3,h4⟩:=orderS_acc hin (d.tasks.length+1) (List.replicate d.tasks.length false) [] (by simp) (by omega) (by simp [List.count_replicate]) (fun j hj => by
    have:=gD_lt hj; simp only [List.length_replicate] at this
    simp [List.getD_eq_getElem?_getD,this] at hj)
  have h3':m.count true=(orderF d.tasks).length:=h3
  have hlt:¬ (orderF d.tasks).length < d.tasks.length:=fun c => by
    unfold dagRightS at h
    by_cases c0:10 < d.tasks.length
    · rw [if_pos c0] at h; cases h
    rw [if_neg c0] at h
    by_cases c1:d.tasks.length < 1∨d.name.length < 1∨16 < d.name.length∨(d.tasks.any fun t => !taskOkS t d.tasks.length)=true
    · rw [if_pos c1] at h; cases h
    · rw [if_neg c1,if_pos c] at h; cases h
  have hc:=List.count_le_length (l:=m) (a:=true)
  have hall:∀ b∈m,true=b:=List.count_eq_length.1 (by omega)
  intro j hj
  refine h4 j ?_
  rw [List.getD_eq_getElem?_getD,List.getElem?_eq_getElem (by omega),Option.getD_some]
  exact (hall _ (List.getElem_mem _)).symm
theorem open_free {q:Rn} (h:RnR q) (hi:q.is=0) (hh:∀ s∈q.states,s.is≠2):∃ i,∃ hi:i < q.states.length,q.states[i].is=1:=by
  have hlen:=h.len
  obtain ⟨_,hr,_⟩:=dag_okn h.dag
  obtain ⟨p1,p2,p3⟩:=h.parts
  have hst:∀ i (hi:i < q.states.length),q.states[i].is=0∨q.states[i].is=1∨q.states[i].is=3:=fun i hi' => by
    have hm:=List.getElem_mem hi'
    have:=h.no4 hi _ hm; have:=h.no5 hi _ hm; have:=hh _ hm
    have:=((standsS_iff _).1 (h.stands _ hm)).1
    omega
  -- one that is not done
  obtain ⟨j0,hj0,hn0⟩:∃ j,∃ hj:j < q.states.length,q.states[j].is≠3:=by
    refine Classical.byContradiction fun hno => ?_
    have hk:=h.kind
    rw [hi] at hk
    unfold kindS at hk
    rw [if_pos] at hk
    · cases hk
    · rw [cntS_all]; intro s hs
      obtain ⟨j,hj,rfl⟩:=List.mem_iff_getElem.1 hs
      have:q.states[j].is=3:=Classical.byContradiction fun c => hno ⟨j,hj,c⟩
      simp [this]
  have key:∀ j,Acc (ndR q.dag.tasks) j→∀ hj:j < q.states.length,q.states[j].is≠3→∃ i,∃ hi:i < q.states.length,q.states[i].is=1:=by
    intro j ha
    induction ha with
    | intro j _ ih =>
      intro hj hn
      rcases hst j hj with e | e | e
      · have hnr:=p3 j hj e
        unfold readyS at hnr
        rw [List.all_eq_false] at hnr
        obtain ⟨x,hx,hxd⟩:=hnr
        have hj2:j < q.dag.tasks.length:=by omega
        have hx':=hx
        rw [needsOf_get hj2] at hx'
        have hxr:=hr _ (List.getElem_mem hj2) x hx'
        have hxl:x.toNat < q.states.length:=by omega
        rw [isDone_get hxl] at hxd
        simp only [decide_eq_true_eq] at hxd
        refine ih x.toNat ?_ hxl hxd
        show ((x.toNat:Nat):Int)∈needsOf q.dag.tasks j
        rw [show ((x.toNat:Nat):Int)=x by omega]; exact hx
      · exact ⟨j,hj,e⟩
      · exact absurd e hn
  exact key j0 (acc_all h.dag j0 (by omega)) hj0 hn0
theorem settle_none {now:Int} {r:Rn} (h:∀ s∈r.states,s.is≠2):settleS now r=r:=by
  have hov:overS (untilS [now]) r.states r.states.length < 0:=by
    rcases Int.lt_or_le (overS (untilS [now]) r.states r.states.length) 0 with c | c
    · exact c
    · obtain ⟨hi,e1,_⟩:=overS_spec (untilS [now]) r.states r.states.length (Nat.le_refl _) c
      exact absurd e1 (h _ (List.getElem_mem hi))
  exact (round_end (k:=0) hov (Nat.zero_le _)).symm
theorem mend_is {r:Rn} (h:r.is=0):(mendS r).is=0∨(mendS r).is=1∨(mendS r).is=2:=by
  unfold mendS; split
  · exact .inr (.inr rfl)
  · simp only; split
    · exact .inr (.inl rfl)
    · exact .inl h
theorem mend_not2 {r:Rn} (h:∀ s∈r.states,s.is≠2):∀ s∈(mendS r).states,s.is≠2 :=
  mendS_all (p:=fun s => s.is≠2) (fun s hs => by unfold tcancelS; split<;>simp_all) (fun s hs => by unfold treadyS; split<;>simp_all) h
def triedS (l:List Stt):Int:=(l.map (·.tried)).sum
def triesS (l:List Task):Int:=(l.map (·.tries)).sum
theorem sumT_mend (r:Rn):triedS (mendS r).states=triedS r.states:=by
  have h:(mendS r).states.map (·.tried)=r.states.map (·.tried):=by
    unfold mendS; split
    · apply List.ext_getElem
      · simp [canL_len]
      · intro j h1 h2; simp only [List.getElem_map]; rw [canL_all',tcancel_tried]
    · apply List.ext_getElem
      · simp [mendL_len]
      · intro j h1 h2; simp only [List.getElem_map]; rw [mendL_all']; split
        · rw [tready_tried]
        · rfl
  unfold triedS; rw [h]
theorem sumT_set {l:List Stt} {i:Nat} {s:Stt} (hi:i < l.length):triedS (l.set i s)=triedS l - l[i].tried+s.tried:=by
  unfold triedS
  induction l generalizing i with
  | nil => simp at hi
  | cons a l ih =>
    cases i with
    | zero => simp; omega
    | succ i =>
      have:=ih (i:=i) (by simpa using hi)
      simp only [List.set_cons_succ,List.map_cons,List.sum_cons,List.getElem_cons_succ] at this ⊢
      omega
theorem sum_lt {ts:List Task} {ss:List Stt} (hl:ss.length=ts.length) (hle:∀ i (h:i < ss.length) (h2:i < ts.length),ss[i].tried≤ts[i].tries) {i:Nat} (hi:i < ss.length) (hi2:i < ts.length) (hlt:ss[i].tried < ts[i].tries):triedS ss < triesS ts:=by
  induction ts generalizing ss i with
  | nil => simp at hi2
  | cons t ts ih =>
    cases ss with
    | nil => simp at hi
    | cons s ss =>
      simp only [triedS,triesS,List.map_cons,List.sum_cons]
      have h0:=hle 0 (by simp) (by simp)
      simp only [List.getElem_cons_zero] at h0
      have hle':∀ i (h:i < ss.length) (h2:i < ts.length),ss[i].tried≤ts[i].tries:=fun i h h2 => hle (i+1) (by simpa using h) (by simpa using h2)
      have hsum:∀ (ts:List Task) (ss:List Stt),ss.length=ts.length→(∀ i (h:i < ss.length) (h2:i < ts.length),ss[i].tried≤ts[i].tries)→(ss.map (·.tried)).sum≤(ts.map (·.tries)).sum:=by
        intro ts
        induction ts with
        | nil =>
          intro ss h _
          have:ss=[]:=List.length_eq_zero_iff.1 (by simpa using h)
          subst this; simp
        | cons t ts ih =>
          intro ss h k
          cases ss with
          | nil => simp at h
          | cons s ss =>
            have:=ih ss (by simpa using h) (fun i h h2 => k (i+1) (by simpa using h) (by simpa using h2))
            have k0:=k 0 (by simp) (by simp)
            simp only [List.getElem_cons_zero] at k0
            simp only [List.map_cons,List.sum_cons]; omega
      cases i with
      | zero =>
        simp only [List.getElem_cons_zero] at hlt
        have:=hsum ts ss (by simpa using hl) hle'
        omega
      | succ i =>
        have:=ih (ss:=ss) (by simpa using hl) hle' (i:=i) (by simpa using hi) (by simpa using hi2) (by simpa using hlt)
        simp only [triedS,triesS] at this
        omega
theorem until1 {n:Int} (h0:0≤n) (h1:n≤MT):untilS [n]=n:=by
  rw [untilS_one]; unfold clampS; omega
theorem until2 {n p:Int} (h0:0≤n) (h1:0≤p) (h2:n+p≤MT):untilS [n,p]=n+p:=by
  rw [untilS_two]; unfold clampS; omega
theorem over_neg {u:Int} {l:List Stt}:∀ k,k≤l.length→overS u l k < 0→∀ j (h:j < l.length),j < k→¬ (l[j].is=2∧l[j].due≤u)
  | 0,_,_,j,_,hj => by omega
  | k+1,hk,h,j,hjl,hj => by
    have hk':k < l.length:=hk
    rw [overS_succ hk'] at h
    by_cases c:l[k].is=2∧l[k].due≤u∧(overS u l k < 0∨l[k].due < dueAt l (overS u l k))
    · rw [if_pos c] at h; omega
    · rw [if_neg c] at h
      by_cases e:j=k
      · subst e; intro hc; exact c ⟨hc.1,hc.2,.inl h⟩
      · exact over_neg k (by omega) h j hjl (by omega)
structure Jr (d:Dag) (j now:Int) (r:Rn):Prop where
  R:RnR r
  dag:r.dag=d
  is:(settleS now r).is=0
  held:∀ s∈(settleS now r).states,s.is≠2
  stab:∀ t,now≤t→settleS t r=settleS now r
  sum:triedS (settleS now r).states=j
  due:∀ s∈(settleS now r).states,s.due≤now+1048576
theorem dag_nums {d:Dag} (h:dagRightS d=0):∀ t∈d.tasks,1≤t.tries∧t.tries≤8∧0≤t.wait∧t.wait≤1048576∧1≤t.lease∧t.lease≤1048576:=by
  intro t ht
  unfold dagRightS at h
  by_cases c0:10 < d.tasks.length
  · rw [if_pos c0] at h; cases h
  rw [if_neg c0] at h
  by_cases c1:d.tasks.length < 1∨d.name.length < 1∨16 < d.name.length∨(d.tasks.any fun t => !taskOkS t d.tasks.length)=true
  · rw [if_pos c1] at h; cases h
  · have hn:¬ (d.tasks.any fun t => !taskOkS t d.tasks.length)=true:=fun e => c1 (.inr (.inr (.inr e)))
    simp only [Bool.not_eq_true,List.any_eq_false,Bool.not_eq_true',Bool.not_eq_false] at hn
    have:=hn t ht
    simp only [taskOkS,taskNumS,Bool.and_eq_true,decide_eq_true_eq] at this
    exact this.2
structure Ls (d:Dag) (j now1 tok:Int) (q r1:Rn) (i:Nat):Prop where
  R:RnR r1
  Rq:RnR q
  key:r1.key=q.key
  dag:r1.dag=d
  is:r1.is=0
  lt:i < q.states.length
  ltt:i < d.tasks.length
  eq:∃ u:Stt,r1=withS q i u∧u.is=2∧u.token=tok∧now1 < u.due∧u.due≤now1+1048576
  held:∀ k (h:k < r1.states.length),k≠i→r1.states[k].is≠2
  due:∀ k (h:k < r1.states.length),k≠i→r1.states[k].due≤now1
  sum:triedS r1.states=j+1
theorem round_lease {d:Dag} {j now tok:Int} {r:Rn} (h:Jr d j now r) (h0:0≤now) (h1:now+6291456≤MT) (ht:1≤tok∧tok≤MT) (htk:∀ s∈r.states,s.token < tok) :
    ∃ (i:Nat) (r1:Rn),leaseS (now+2097152) tok r=(r1,(i:Int),0)∧Ls d j (now+2097152) tok (settleS now r) r1 i:=by
  have hMT:MT=1099511627776:=rfl
  have hq:=settle_R (now:=now) h.R
  have hst:=h.stab (now+2097152) (by omega)
  have htq:∀ s∈(settleS now r).states,s.token < tok:=fun s hs => by
    have hm:=(toks_settle (now:=now) h.R).mem s.token (List.mem_map.2 ⟨s,hs,rfl⟩)
    rcases hm with hm | hm
    · obtain ⟨s',hs',e⟩:=List.mem_map.1 hm
      rw [← e]; exact htk s' hs'
    · omega
  have hqd:(settleS now r).dag=d:=(settleS_shp now r).dag.trans h.dag
  have his:=h.is
  have hheld:=h.held
  have hdue:=h.due
  have hsum:=h.sum
  obtain ⟨i0,hi0,e0⟩:=open_free hq his hheld
  have hls:leaseS (now+2097152) tok r=leaseQ (now+2097152) tok (settleS now r):=by unfold leaseS; rw [hst]
  have hR:=fun hz => (lease_R (now:=now+2097152) (token:=tok) h.R hz).1
  rw [hls] at hR ⊢
  generalize settleS now r=q at hq htq hqd his hheld hdue hsum hi0 e0 hR
  have hu1:=until1 (n:=now+2097152) (by omega) (by omega)
  have hnany:¬ q.states.any (tokP tok)=true:=fun e => by
    obtain ⟨s,hs,hp⟩:=List.any_eq_true.1 e
    have:=htq s hs
    simp [tokP] at hp; omega
  have hlq:leaseQ (now+2097152) tok q=match fndS (dueP (untilS [now+2097152])) 0 q.states with | some i => (leaseAt q (now+2097152) tok i,(i:Int),0) | none => (zR,0,192):=by
    unfold leaseQ
    rw [if_neg (by omega),if_neg hnany,if_neg (by omega)]<;>(cases fndS (dueP (untilS [now+2097152])) 0 q.states<;>rfl)
  cases hf:fndS (dueP (untilS [now+2097152])) 0 q.states with
  | none =>
    have:=fndS_none hf _ (List.getElem_mem hi0)
    have hd0:=hdue _ (List.getElem_mem hi0)
    simp only [dueP,hu1,Bool.and_eq_false_iff,decide_eq_false_iff_not] at this
    omega
  | some i =>
    obtain ⟨hg,hp,_⟩:=fndS_get hf
    have hlen:=hq.len
    have hg2:i < q.dag.tasks.length:=by omega
    simp only [dueP,Bool.and_eq_true,decide_eq_true_eq] at hp
    have hlt:leaseQ (now+2097152) tok q=(withS q i ⟨2,q.states[i].tried+1,untilS [now+2097152,q.dag.tasks[i].lease],tok,q.states[i].result⟩,(i:Int),0):=by
      rw [hlq,hf]
      simp only
      rw [leaseAt_get hg2 hg]
      unfold tleaseS; rw [if_neg (by omega),if_neg (by omega)]
    have hn:=dag_nums hq.dag _ (List.getElem_mem hg2)
    have hu2:=until2 (n:=now+2097152) (p:=q.dag.tasks[i].lease) (by omega) (by omega) (by omega)
    rw [hlt] at hR
    have hR1:=hR rfl
    refine ⟨i,_,hlt,hR1,hq,rfl,hqd,his,hg,by rw [← hqd]; exact hg2,⟨⟨2,q.states[i].tried+1,untilS [now+2097152,q.dag.tasks[i].lease],tok,q.states[i].result⟩,rfl,rfl,rfl,by show now+2097152 < untilS _; rw [hu2]; omega,by show untilS _≤_; rw [hu2]; omega⟩,fun k hk hki => ?_,fun k hk hki => ?_, ?_⟩
    · simp only [withS,List.getElem_set]
      rw [if_neg (by omega)]
      exact hheld _ (List.getElem_mem _)
    · simp only [withS,List.getElem_set]
      rw [if_neg (by omega)]
      have:=hdue _ (List.getElem_mem (l:=q.states) (n:=k) (by simpa [withS] using hk)); omega
    · simp only [withS]
      rw [sumT_set hg]; simp only; omega
theorem Ls.len {d:Dag} {j now1 tok:Int} {q r1:Rn} {i:Nat} (h:Ls d j now1 tok q r1 i):i < r1.states.length:=by
  obtain ⟨u,rfl,_⟩:=h.eq
  simpa [withS] using h.lt
theorem Ls.at {d:Dag} {j now1 tok:Int} {q r1:Rn} {i:Nat} (h:Ls d j now1 tok q r1 i):(r1.states[i]'h.len).is=2∧(r1.states[i]'h.len).token=tok∧now1 < (r1.states[i]'h.len).due∧(r1.states[i]'h.len).due≤now1+1048576:=by
  obtain ⟨u,rfl,h1,h2,h3,h4⟩:=h.eq
  simp only [withS,List.getElem_set_self]
  exact ⟨h1,h2,h3,h4⟩
theorem after {d:Dag} {j now1 tok t:Int} {q r1:Rn} {i:Nat} (h:Ls d j now1 tok q r1 i) {u:Stt} (h2:u.is≠2) (ht:u.tried=(r1.states[i]'h.len).tried) (hd:u.due≤t+1048576) (h1:now1≤t+1048576)
    (hs:Pm (withS r1 i u)):(∀ s∈(mendS (withS r1 i u)).states,s.is≠2)∧triedS (mendS (withS r1 i u)).states=j+1∧((mendS (withS r1 i u)).is=0→∀ s∈(mendS (withS r1 i u)).states,s.due≤t+1048576):=by
  have hi:=h.len
  refine ⟨mend_not2 fun s hs => ?_, ?_,fun h0 => ?_⟩
  · obtain ⟨k,hk,rfl⟩:=List.mem_iff_getElem.1 hs
    simp only [withS,List.length_set] at hk
    simp only [withS,List.getElem_set]
    split
    · exact h2
    · exact h.held k hk (by omega)
  · rw [sumT_mend]
    simp only [withS]
    rw [sumT_set hi,ht,h.sum]; omega
  · have hm:(mendS (withS r1 i u)).states=mendL (withS r1 i u).dag.tasks (withS r1 i u).states (withS r1 i u).states.length:=by
      unfold mendS at h0 ⊢
      split
      · rename_i c; rw [if_pos c] at h0; cases h0
      · rfl
    rw [hm]
    refine mendL_all (p:=fun s => s.due≤t+1048576) (fun s hs => by unfold treadyS; split<;>exact hs) (fun s hs => ?_) _
    obtain ⟨k,hk,rfl⟩:=List.mem_iff_getElem.1 hs
    simp only [withS,List.length_set] at hk
    simp only [withS,List.getElem_set]
    split
    · exact hd
    · have:=h.due k hk (by omega); omega
theorem settle_early {d:Dag} {j now1 tok:Int} {q r1:Rn} {i:Nat} (h:Ls d j now1 tok q r1 i) (h0:0≤now1) (h1:now1≤MT):settleS now1 r1=r1:=by
  have hov:overS (untilS [now1]) r1.states r1.states.length < 0:=by
    rcases Int.lt_or_le (overS (untilS [now1]) r1.states r1.states.length) 0 with c | c
    · exact c
    · obtain ⟨hk,e1,e2⟩:=overS_spec (untilS [now1]) r1.states r1.states.length (Nat.le_refl _) c
      have hu:=until1 h0 h1
      generalize (overS (untilS [now1]) r1.states r1.states.length).toNat=k at hk e1 e2
      rw [hu] at e2
      by_cases e:k=i
      · subst e; have:=h.at; omega
      · exact absurd e1 (h.held k hk e)
  exact (round_end (k:=0) hov (Nat.zero_le _)).symm
theorem round_told {d:Dag} {j now1 tok:Int} {q r1:Rn} {i:Nat} {f:Task→Stt→Stt×Int} (h:Ls d j now1 tok q r1 i) (h0:0≤now1) (h1:now1≤MT) (hf:AnsOk f)
    (hfo:∀ t s,0≤t.wait→t.wait≤1048576→s.is=2→(f t s).2=0∧(f t s).1.is≠2∧(f t s).1.tried=s.tried∧(f t s).1.due≤now1+1048576) :
    ∃ r2,toldS now1 f tok r1=(r2,0)∧(∀ t,settleS t r2=r2)∧(r2.is=0∨r2.is=1∨r2.is=2)∧(r2.is=0→Jr d (j+1) now1 r2):=by
  have hi:=h.len
  have hat:=h.at
  have hlen:=h.R.len
  have hi2:i < r1.dag.tasks.length:=by omega
  have hfind:fndS (holdP tok) 0 r1.states=some i:=by
    cases hf:fndS (holdP tok) 0 r1.states with
    | none =>
      have:=fndS_none hf _ (List.getElem_mem hi)
      simp [holdP,hat.1,hat.2.1] at this
    | some k =>
      obtain ⟨hk,hp,_⟩:=fndS_get hf
      simp only [holdP,Bool.and_eq_true,decide_eq_true_eq] at hp
      by_cases e:k=i
      · rw [e]
      · exact absurd hp.1 (h.held k hk e)
  have hn:=dag_nums h.R.dag _ (List.getElem_mem hi2)
  obtain ⟨f1,f2,f3,f4⟩:=hfo r1.dag.tasks[i] r1.states[i] hn.2.2.1 hn.2.2.2.1 hat.1
  have htold:toldS now1 f tok r1=(mendS (withS r1 i (f r1.dag.tasks[i] r1.states[i]).1),0):=by
    unfold toldS
    rw [settle_early h h0 h1,toldQ_some hfind hi2 hi,if_neg (by omega)]
  obtain ⟨g1,g2,g3,g4⟩:=hf _ _ (h.R.trs hi) hat.1 f1
  have hpm:=set_Pm h.R hi hat.1 g1 g2 g3 g4
  obtain ⟨a1,a2,a3⟩:=after h (t:=now1) f2 f3 f4 (by omega) hpm
  have hst:∀ t,settleS t (mendS (withS r1 i (f r1.dag.tasks[i] r1.states[i]).1))=mendS (withS r1 i (f r1.dag.tasks[i] r1.states[i]).1):=fun t => settle_none a1
  refine ⟨_,htold,hst,mend_is (by simp only [withS]; exact h.is),fun h0' => ⟨mend_R hpm, ?_,by rw [hst]; exact h0',by rw [hst]; exact a1,fun t _ => by rw [hst,hst],by rw [hst]; exact a2,by rw [hst]; exact a3 h0'⟩⟩
  exact (mendS_shp _).dag.trans h.dag
theorem settle_late {d:Dag} {j now1 tok t:Int} {q r1:Rn} {i:Nat} (h:Ls d j now1 tok q r1 i) (h0:0≤now1) (ht:now1+1048576≤t) :
    ∃ hi:i < r1.dag.tasks.length,settleS t r1=mendS (withS r1 i (tfailS r1.dag.tasks[i] (r1.states[i]'h.len) (r1.states[i]'h.len).due).1):=by
  have hMT:MT=1099511627776:=rfl
  have hi:=h.len
  have hat:=h.at
  have hlen:=h.R.len
  have hi2:i < r1.dag.tasks.length:=by omega
  refine ⟨hi2, ?_⟩
  have hstd:=((standsS_iff _).1 (h.R.stands _ (List.getElem_mem hi))).1
  have hu:(r1.states[i]).due≤untilS [t]:=by
    rw [untilS_one]; unfold clampS; omega
  have hov:overS (untilS [t]) r1.states r1.states.length=(i:Int):=by
    rcases Int.lt_or_le (overS (untilS [t]) r1.states r1.states.length) 0 with c | c
    · exact absurd ⟨hat.1,hu⟩ (over_neg _ (Nat.le_refl _) c i hi hi)
    · obtain ⟨hk,e1,e2⟩:=overS_spec (untilS [t]) r1.states r1.states.length (Nat.le_refl _) c
      have ho:overS (untilS [t]) r1.states r1.states.length=((overS (untilS [t]) r1.states r1.states.length).toNat:Nat):=by omega
      generalize (overS (untilS [t]) r1.states r1.states.length).toNat=k at hk e1 e2 ho
      by_cases e:k=i
      · rw [ho,e]
      · exact absurd e1 (h.held k hk e)
  have hone:oneS t r1=mendS (withS r1 i (tfailS r1.dag.tasks[i] r1.states[i] r1.states[i].due).1):=by
    rw [oneS_some hov hi2 hi]
    unfold texpireS; rw [if_neg (by omega)]
  have hf:=fail_R (now:=r1.states[i].due) (h.R.trs hi) hat.1
  have hn2:(tfailS r1.dag.tasks[i] r1.states[i] r1.states[i].due).1.is≠2:=by
    unfold tfailS; rw [if_neg (by omega)]; split<;>simp
  have hnone:∀ s∈(oneS t r1).states,s.is≠2:=by
    rw [hone]
    refine mend_not2 fun s hs => ?_
    obtain ⟨k,hk,rfl⟩:=List.mem_iff_getElem.1 hs
    simp only [withS,List.length_set] at hk
    simp only [withS,List.getElem_set]
    split
    · exact hn2
    · exact h.held k hk (by omega)
  have hov1:overS (untilS [t]) (rndS t r1 1).states (rndS t r1 1).states.length < 0:=by
    show overS (untilS [t]) (oneS t r1).states (oneS t r1).states.length < 0
    rcases Int.lt_or_le (overS (untilS [t]) (oneS t r1).states (oneS t r1).states.length) 0 with c | c
    · exact c
    · obtain ⟨hk,e1,_⟩:=overS_spec (untilS [t]) (oneS t r1).states (oneS t r1).states.length (Nat.le_refl _) c
      exact absurd e1 (hnone _ (List.getElem_mem hk))
  rw [← round_end (k:=1) hov1 (by omega)]
  exact hone
theorem round_tick {d:Dag} {j now1 tok:Int} {q r1:Rn} {i:Nat} (h:Ls d j now1 tok q r1 i) (h0:0≤now1) :
    ((settleS (now1+2097152) r1).is=0∨(settleS (now1+2097152) r1).is=1∨(settleS (now1+2097152) r1).is=2)∧((settleS (now1+2097152) r1).is=0→Jr d (j+1) (now1+2097152) r1):=by
  have hMT:MT=1099511627776:=rfl
  have hi:=h.len
  have hat:=h.at
  obtain ⟨hi2,e⟩:=settle_late h h0 (t:=now1+2097152) (by omega)
  have he:∀ t,now1+2097152≤t→settleS t r1=mendS (withS r1 i (tfailS r1.dag.tasks[i] r1.states[i] r1.states[i].due).1):=fun t ht => (settle_late h h0 (t:=t) (by omega)).2
  obtain ⟨g1,g2,g3,g4⟩:=fail_R (now:=r1.states[i].due) (h.R.trs hi) hat.1
  have hpm:=set_Pm h.R hi hat.1 g1 g2 g3 (.inr g4)
  have hn:=dag_nums h.R.dag _ (List.getElem_mem hi2)
  have hstd:=((standsS_iff _).1 (h.R.stands _ (List.getElem_mem hi))).1
  have hn2:(tfailS r1.dag.tasks[i] r1.states[i] r1.states[i].due).1.is≠2:=by
    unfold tfailS; rw [if_neg (by omega)]; split<;>simp
  have hdue:(tfailS r1.dag.tasks[i] r1.states[i] r1.states[i].due).1.due≤now1+2097152+1048576:=by
    unfold tfailS; rw [if_neg (by omega)]; split
    · simp only; omega
    · simp only
      have ha:=afterS_range r1.dag.tasks[i].wait r1.states[i].tried
      rw [untilS_two]; unfold clampS
      simp only [MW] at ha
      omega
  obtain ⟨a1,a2,a3⟩:=after h (t:=now1+2097152) hn2 (tfail_tried hat.1) hdue (by omega) hpm
  rw [e]
  refine ⟨mend_is (by simp only [withS]; exact h.is),fun h0' => ⟨h.R,h.dag,by rw [e]; exact h0',by rw [e]; exact a1,fun t ht => by rw [he t ht,e],by rw [e]; exact a2,by rw [e]; exact a3 h0'⟩⟩
theorem Jr.start {key:Str} {d:Dag} (hk:1≤key.length∧key.length≤16) (hd:dagRightS d=0):Jr d 0 0 (newS key d):=by
  have hR:=new_R hk hd
  have h2:∀ s∈(newS key d).states,s.is≠2:=mend_not2 fun s hs => by simp only [startS,List.mem_replicate] at hs; rw [hs.2]; simp [zS]
  have hst:∀ t,settleS t (newS key d)=newS key d:=fun t => settle_none h2
  have hz:∀ s∈(newS key d).states,s.due=0:=mendS_all (p:=fun s => s.due=0) (fun s hs => by unfold tcancelS; split<;>simp [hs]) (fun s hs => by unfold treadyS; split<;>simp [hs]) fun s hs => by
    simp only [startS,List.mem_replicate] at hs; rw [hs.2]; rfl
  refine ⟨hR,(mendS_shp _).dag, ?_,by rw [hst]; exact h2,fun t _ => by rw [hst,hst], ?_,by rw [hst]; intro s hs; rw [hz s hs]; omega⟩
  · rw [hst]
    -- no task is done yet
    have h4:¬ hasS (startS key d).states 4=true:=fun e => by
      obtain ⟨s,hs,e⟩:=hasS_iff.1 e
      simp only [startS,List.mem_replicate] at hs; rw [hs.2] at e; cases e
    have hn3:∀ s∈mendL (startS key d).dag.tasks (startS key d).states (startS key d).states.length,s.is=0∨s.is=1:=mendL_all (p:=fun s => s.is=0∨s.is=1) (fun s hs => by
      unfold treadyS; split
      · exact .inr rfl
      · exact hs) (fun s hs => by simp only [startS,List.mem_replicate] at hs; rw [hs.2]; exact .inl rfl) _
    have hpos:=dag_pos hd
    have hl:0 < (mendL (startS key d).dag.tasks (startS key d).states (startS key d).states.length).length:=by rw [mendL_len,startS_len]; exact hpos
    have hall:¬ allS (mendL (startS key d).dag.tasks (startS key d).states (startS key d).states.length)=true:=fun e => by
      have:=List.all_eq_true.1 e _ (List.getElem_mem hl)
      have h01:=hn3 _ (List.getElem_mem hl)
      simp only [decide_eq_true_eq] at this
      omega
    unfold newS mendS
    rw [if_neg h4]
    simp only
    rw [if_neg hall]; rfl
  · rw [hst]
    show triedS (mendS (startS key d)).states=0
    rw [sumT_mend]
    simp [triedS,startS,zS]
def r13:List RV:=[.c 2 (some 4)]
def c16:C :=
  (.seq
 (.reg false [p (.mov (.k (.bool false)))] [])
 (.seq
 (.reg false [p (.build [.int .i64 0,.int .i64 0,.fsl .nil 2 [],.fsl .nil 5 []] []),
 p (.build [.int .i64 0,.str [],.str [],.int .i64 0,.int .i64 0,.str [],.str [],.fsl .nil 4 []] [(0,1,.k (.int .i64 3))]),
 p (.call true (.k (.fn 14 [] [])) [.r 1,.r 0]),
 p (.mov (.r 0)),
 p (.ext (.r 0) 0),
 p (.ext (.r 1) 1),
 p (.alloc 4 (.agg [.int .i64 0,.int .i64 0,.fsl .nil 2 [],.fsl .nil 5 []])),
 p (.alloc 6 (.agg [.int .i64 0,.str [],.int .i64 0,.int .i64 0,.int .i64 0,.fsl .nil 5 []])),
 p (.store (some 4) (.r 1) (.r 3)),
 p (.store (some 6) (.r 1) (.r 3))] [(2,.r 2)])
 (.seq
 (.reg false [p (.fad 0 (.v 2)),
 p (.load (none) (.r 0)),
 p (.bin .eql (.r 0) (.k (.int .i64 192))),
 p (.mov (.r 0)),
 ⟨.build [.int .i64 0,.int .i64 0,.fsl .nil 2 [],.fsl .nil 5 []] [],some (0,true),[]⟩,
 ⟨.call true (.k (.fn 17 [] [])) [.r 0],some (1,true),[]⟩,
 p (.pick (.r 2) (.r 0) (.k (.bool false))),
 p (.mov (.r 0))] [(0,.r 0)])
 .ret)))
def r16:List RV:=[.t 0]
theorem en16:EnP Tryz.prog 16 16 c16 r16:=mkEnP (by kernel_rfl) Tryz.func16 (by kernel_rfl) ⟨_,rfl,by kernel_rfl,by kernel_rfl⟩
def c3:C :=
  (.seq
 (.reg false [p (.box 4 (.v 0)),
 p (.box 8 (.v 1)),
 p (.mov (.k (.bool false)))] [(2,.r 2),(3,.r 1)])
 (.seq
 (.reg false [p (.load (some 4) (.v 2)),
 p (.call true (.k (.fn 13 [] [])) [.r 0]),
 p (.store (some 4) (.v 2) (.r 0))] [(2,.v 2),(3,.v 3)])
 (.seq
 (.reg false [p (.load (some 4) (.v 2)),
 p (.load (some 8) (.v 3)),
 p (.call true (.k (.fn 14 [] [])) [.r 1,.r 0]),
 p (.mov (.r 0)),
 p (.ext (.r 0) 0),
 p (.ext (.r 1) 1),
 p (.alloc 4 (.agg [.int .i64 0,.int .i64 0,.fsl .nil 2 [],.fsl .nil 5 []])),
 p (.alloc 6 (.agg [.int .i64 0,.str [],.int .i64 0,.int .i64 0,.int .i64 0,.fsl .nil 5 []])),
 p (.store (some 4) (.r 1) (.r 3)),
 p (.store (some 6) (.r 1) (.r 3))] [(2,.v 2),(3,.v 3),(5,.r 3),(6,.r 2)])
 (.seq
 (.reg false [p (.load (some 4) (.v 2)),
 p (.load (some 8) (.v 3)),
 p (.call true (.k (.fn 15 [] [])) [.r 1,.r 0]),
 p (.mov (.r 0)),
 p (.ext (.r 0) 0),
 p (.ext (.r 1) 1),
 p (.alloc 4 (.agg [.int .i64 0,.int .i64 0,.fsl .nil 2 [],.fsl .nil 5 []])),
 p (.alloc 6 (.agg [.int .i64 0,.str [],.int .i64 0,.int .i64 0,.int .i64 0,.fsl .nil 5 []])),
 p (.store (some 4) (.r 1) (.r 3)),
 p (.store (some 6) (.r 1) (.r 3))] [(2,.v 2),(5,.v 5),(6,.v 6),(7,.r 3),(8,.r 2)])
 (.seq
 (.reg true [p (.call true (.k (.fn 16 [] [])) []),
 p (.mov (.r 0)),
 ⟨.load (some 4) (.v 2),some (0,true),[]⟩,
 ⟨.call true (.k (.fn 17 [] [])) [.r 0],some (1,true),[]⟩,
 ⟨.load (some 4) (.v 2),some (2,true),[]⟩,
 ⟨.call true (.k (.fn 18 [] [])) [.r 0],some (3,true),[]⟩,
 ⟨.eqb false (.r 2) (.r 0),some (4,true),[]⟩,
 p (.pick (.r 5) (.r 0) (.k (.bool false))),
 p (.mov (.r 0)),
 ⟨.load (some 4) (.v 5),some (0,true),[]⟩,
 ⟨.load (some 4) (.v 7),some (1,true),[]⟩,
 ⟨.call true (.k (.fn 19 [] [])) [.r 1,.r 0],some (2,true),[]⟩,
 p (.pick (.r 3) (.r 0) (.k (.bool false))),
 p (.mov (.r 0)),
 ⟨.load (some 6) (.v 6),some (0,true),[]⟩,
 ⟨.load (some 6) (.v 8),some (1,true),[]⟩,
 ⟨.call true (.k (.fn 20 [] [])) [.r 1,.r 0],some (2,true),[]⟩,
 p (.pick (.r 3) (.r 0) (.k (.bool false))),
 p (.mov (.r 0))] [(4,.r 0)])
 .ret)))))
def r3:List RV:=[.t 4]
def c4:C :=
  (.seq
 (.reg false [p (.box 4 (.v 0)),
 p (.box 8 (.v 1)),
 p (.mov (.k (.bool false)))] [(2,.r 2),(3,.r 1)])
 (.seq
 (.reg false [p (.load (some 4) (.v 2)),
 p (.call true (.k (.fn 13 [] [])) [.r 0]),
 p (.store (some 4) (.v 2) (.r 0))] [(2,.v 2),(3,.v 3)])
 (.seq
 (.seq
 (.reg false [p (.load (some 4) (.v 2)),
 p (.call true (.k (.fn 18 [] [])) [.r 0]),
 p (.un .not (.r 0))] [(2,.v 2),(3,.v 3),(13,.r 0)])
 (.cond (.v 13)
 (.seq
 (.reg false [p (.call true (.k (.fn 16 [] [])) []),
 p (.mov (.r 0))] [(4,.r 0)])
 .ret)
 .skip))
 (.seq
 (.reg false [p (.load (some 4) (.v 2)),
 p (.load (some 8) (.v 3)),
 p (.call true (.k (.fn 14 [] [])) [.r 1,.r 0]),
 p (.mov (.r 0)),
 p (.ext (.r 0) 0),
 p (.ext (.r 1) 1),
 p (.alloc 4 (.agg [.int .i64 0,.int .i64 0,.fsl .nil 2 [],.fsl .nil 5 []])),
 p (.alloc 6 (.agg [.int .i64 0,.str [],.int .i64 0,.int .i64 0,.int .i64 0,.fsl .nil 5 []])),
 p (.store (some 4) (.r 1) (.r 3)),
 p (.store (some 6) (.r 1) (.r 3))] [(2,.v 2),(3,.v 3),(5,.r 3),(6,.r 2)])
 (.seq
 (.seq
 (.reg false [p (.load (some 4) (.v 5)),
 p (.call true (.k (.fn 18 [] [])) [.r 0]),
 p (.un .not (.r 0)),
 p (.mov (.r 0)),
 ⟨.fad 0 (.v 5),some (0,false),[]⟩,
 ⟨.load (none) (.r 0),some (1,false),[]⟩,
 ⟨.fad 0 (.v 2),some (2,false),[]⟩,
 ⟨.load (none) (.r 0),some (3,false),[]⟩,
 ⟨.bin .lss (.r 2) (.r 0),some (4,false),[]⟩,
 p (.pick (.r 5) (.k (.bool true)) (.r 0)),
 p (.mov (.r 0)),
 ⟨.fad 1 (.v 5),some (0,false),[]⟩,
 ⟨.load (none) (.r 0),some (1,false),[]⟩,
 ⟨.fad 1 (.v 2),some (2,false),[]⟩,
 ⟨.load (none) (.r 0),some (3,false),[]⟩,
 ⟨.bin .lss (.r 2) (.r 0),some (4,false),[]⟩,
 p (.pick (.r 5) (.k (.bool true)) (.r 0)),
 p (.mov (.r 0)),
 ⟨.fad 2 (.v 5),some (0,false),[]⟩,
 ⟨.load (none) (.r 0),some (1,false),[]⟩,
 ⟨.len false (.r 0),some (2,false),[]⟩,
 ⟨.fad 2 (.v 2),some (3,false),[]⟩,
 ⟨.load (none) (.r 0),some (4,false),[]⟩,
 ⟨.len false (.r 0),some (5,false),[]⟩,
 ⟨.bin .lss (.r 3) (.r 0),some (6,false),[]⟩,
 p (.pick (.r 7) (.k (.bool true)) (.r 0)),
 p (.mov (.r 0)),
 ⟨.fad 3 (.v 5),some (0,false),[]⟩,
 ⟨.load (none) (.r 0),some (1,false),[]⟩,
 ⟨.len false (.r 0),some (2,false),[]⟩,
 ⟨.fad 3 (.v 2),some (3,false),[]⟩,
 ⟨.load (none) (.r 0),some (4,false),[]⟩,
 ⟨.len false (.r 0),some (5,false),[]⟩,
 ⟨.bin .lss (.r 3) (.r 0),some (6,false),[]⟩,
 p (.pick (.r 7) (.k (.bool true)) (.r 0)),
 p (.mov (.r 0)),
 ⟨.fad 0 (.v 6),some (0,false),[]⟩,
 ⟨.load (none) (.r 0),some (1,false),[]⟩,
 ⟨.bin .neq (.r 0) (.k (.int .i64 0)),some (2,false),[]⟩,
 ⟨.mov (.r 0),some (3,false),[]⟩,
 ⟨.load (some 4) (.v 5),some (0,true),[]⟩,
 ⟨.load (some 4) (.v 2),some (1,true),[]⟩,
 ⟨.call true (.k (.fn 19 [] [])) [.r 1,.r 0],some (2,true),[]⟩,
 ⟨.un .not (.r 0),some (3,true),[]⟩,
 ⟨.pick (.r 4) (.r 0) (.k (.bool false)),some (8,false),[]⟩,
 p (.pick (.r 9) (.k (.bool true)) (.r 0))] [(3,.v 3),(5,.v 5),(6,.v 6),(66,.r 0)])
 (.cond (.v 66)
 (.seq
 (.reg false [p (.mov (.k (.bool false)))] [(4,.r 0)])
 .ret)
 .skip))
 (.seq
 (.seq
 (.reg false [p (.fad 0 (.v 3)),
 p (.load (none) (.r 0)),
 p (.bin .neq (.r 0) (.k (.int .i64 1))),
 p (.mov (.r 0)),
 ⟨.fad 0 (.v 3),some (0,true),[]⟩,
 ⟨.load (none) (.r 0),some (1,true),[]⟩,
 ⟨.bin .neq (.r 0) (.k (.int .i64 2)),some (2,true),[]⟩,
 p (.pick (.r 3) (.r 0) (.k (.bool false)))] [(3,.v 3),(5,.v 5),(6,.v 6),(74,.r 0)])
 (.cond (.v 74)
 (.seq
 (.reg false [p (.call true (.k (.fn 16 [] [])) []),
 p (.mov (.r 0))] [(4,.r 0)])
 .ret)
 .skip))
 (.seq
 (.reg false [p (.load (some 4) (.v 5)),
 p (.load (some 8) (.v 3)),
 p (.call true (.k (.fn 14 [] [])) [.r 1,.r 0]),
 p (.mov (.r 0)),
 p (.ext (.r 0) 0),
 p (.ext (.r 1) 1),
 p (.alloc 4 (.agg [.int .i64 0,.int .i64 0,.fsl .nil 2 [],.fsl .nil 5 []])),
 p (.alloc 6 (.agg [.int .i64 0,.str [],.int .i64 0,.int .i64 0,.int .i64 0,.fsl .nil 5 []])),
 p (.store (some 4) (.r 1) (.r 3)),
 p (.store (some 6) (.r 1) (.r 3))] [(5,.v 5),(6,.v 6),(7,.r 3),(8,.r 2)])
 (.seq
 (.reg false [p (.call true (.k (.fn 16 [] [])) []),
 p (.mov (.r 0)),
 ⟨.load (some 4) (.v 5),some (0,true),[]⟩,
 ⟨.load (some 4) (.v 7),some (1,true),[]⟩,
 ⟨.call true (.k (.fn 19 [] [])) [.r 1,.r 0],some (2,true),[]⟩,
 p (.pick (.r 3) (.r 0) (.k (.bool false))),
 p (.mov (.r 0)),
 ⟨.load (some 6) (.v 6),some (0,true),[]⟩,
 ⟨.load (some 6) (.v 8),some (1,true),[]⟩,
 ⟨.call true (.k (.fn 20 [] [])) [.r 1,.r 0],some (2,true),[]⟩,
 p (.pick (.r 3) (.r 0) (.k (.bool false))),
 p (.mov (.r 0))] [(4,.r 0)])
 .ret))))))))
def r4:List RV:=[.t 4]
def c6:C :=
  (.seq
 (.reg false [p (.box 4 (.v 0)),
 p (.mov (.k (.bool false)))] [(1,.v 1),(2,.v 2),(3,.v 3),(4,.r 1)])
 (.seq
 (.reg false [p (.load (some 4) (.v 4)),
 p (.call true (.k (.fn 13 [] [])) [.r 0]),
 p (.store (some 4) (.v 4) (.r 0))] [(1,.v 1),(2,.v 2),(3,.v 3),(4,.v 4)])
 (.seq
 (.seq
 (.reg false [p (.load (some 4) (.v 4)),
 p (.call true (.k (.fn 18 [] [])) [.r 0]),
 p (.un .not (.r 0))] [(1,.v 1),(2,.v 2),(3,.v 3),(4,.v 4),(19,.r 0)])
 (.cond (.v 19)
 (.seq
 (.reg false [p (.call true (.k (.fn 16 [] [])) []),
 p (.mov (.r 0))] [(8,.r 0)])
 .ret)
 .skip))
 (.seq
 (.reg false [p (.mov (.k (.fn 22 [] [])))] [(1,.v 1),(2,.v 2),(3,.v 3),(4,.v 4),(9,.r 0)])
 (.seq
 (.reg true [p (.mov (.v 9)),
 p (.mov (.v 9)),
 p (.load (some 4) (.v 4)),
 p (.mov (.v 1)),
 p (.call false (.r 2) [.r 1,.r 0]),
 p (.mov (.v 2)),
 p (.call false (.r 5) [.r 1,.r 0]),
 p (.mov (.v 9)),
 p (.mov (.v 9)),
 ⟨.load (some 4) (.v 4),none,[4,2]⟩,
 p (.mov (.v 2)),
 p (.call false (.r 2) [.r 1,.r 0]),
 p (.mov (.v 1)),
 p (.call false (.r 5) [.r 1,.r 0]),
 ⟨.alloc 4 (.agg [.int .i64 0,.int .i64 0,.fsl .nil 2 [],.fsl .nil 5 []]),none,[11,9,7,4,2,0]⟩,
 ⟨.alloc 4 (.agg [.int .i64 0,.int .i64 0,.fsl .nil 2 [],.fsl .nil 5 []]),none,[12,10,8,5,3,1,0]⟩,
 p (.store (some 4) (.r 1) (.r 9)),
 p (.store (some 4) (.r 1) (.r 3))] [(3,.v 3),(4,.v 4),(10,.r 3),(11,.r 2)])
 (.seq
 (.reg false [p (.load (some 4) (.v 10)),
 p (.alloc 4 (.agg [.int .i64 0,.int .i64 0,.fsl .nil 2 [],.fsl .nil 5 []])),
 p (.store (some 4) (.r 0) (.r 1))] [(3,.v 3),(4,.v 4),(10,.v 10),(11,.v 11),(12,.r 1)])
 (.seq
 (.seq
 (.reg false [p (.fad 0 (.v 10)),
 p (.load (none) (.r 0)),
 p (.build [.int .i64 0,.str [],.str [],.int .i64 0,.int .i64 0,.str [],.str [],.fsl .nil 4 []] [(0,1,.k (.int .i64 8)),(4,1,.r 0)]),
 p (.mov (.v 3)),
 p (.build [.int .i64 0,.str [],.str [],.int .i64 0,.int .i64 0,.str [],.str [],.fsl .nil 4 []] [(0,1,.k (.int .i64 9)),(1,1,.r 0)]),
 p (.build [.int .i64 0,.str [],.str [],.int .i64 0,.int .i64 0,.str [],.str [],.fsl .nil 4 []] [(0,1,.k (.int .i64 10))]),
 p (.build [.int .i64 0,.str [],.str [],.int .i64 0,.int .i64 0,.str [],.str [],.fsl .nil 4 []] [(0,1,.k (.int .i64 9))]),
 p (.bsl 8 [.r 4,.r 2,.r 1,.r 0]),
 p (.len false (.r 0)),
 p (.mov (.k (.int .i64 0)))] [(4,.v 4),(10,.v 10),(11,.v 11),(12,.v 12),(43,.r 2),(44,.r 1),(45,.r 0)])
 (.block 0
 (.loop
 (.seq
 (.reg false [p (.bin .lss (.v 45) (.v 44))] [(4,.v 4),(10,.v 10),(11,.v 11),(12,.v 12),(43,.v 43),(44,.v 44),(45,.v 45),(46,.r 0)])
 (.seq
 (.cond (.v 46)
 .skip
 (.exit 0))
 (.seq
 (.block 1
 (.seq
 (.reg false [p (.iad 8 (.v 43) (.v 45)),
 p (.load (some 8) (.r 0)),
 p (.alloc 8 (.agg [.int .i64 0,.str [],.str [],.int .i64 0,.int .i64 0,.str [],.str [],.fsl .nil 4 []])),
 p (.store (some 8) (.r 0) (.r 1))] [(4,.v 4),(10,.v 10),(11,.v 11),(12,.v 12),(14,.r 1),(43,.v 43),(44,.v 44),(45,.v 45)])
 (.reg false [p (.load (some 4) (.v 12)),
 p (.load (some 8) (.v 14)),
 p (.call true (.k (.fn 14 [] [])) [.r 1,.r 0]),
 p (.mov (.r 0)),
 p (.ext (.r 0) 0),
 p (.ext (.r 1) 1),
 p (.store (some 4) (.v 12) (.r 1))] [(4,.v 4),(10,.v 10),(11,.v 11),(12,.v 12),(43,.v 43),(44,.v 44),(45,.v 45)])))
 (.reg false [p (.bin .add (.v 45) (.k (.int .i64 1))),
 p (.mov (.r 0))] [(4,.v 4),(10,.v 10),(11,.v 11),(12,.v 12),(43,.v 43),(44,.v 44),(45,.r 0)])))))))
 (.frz
 (.seq
 (.reg false [p (.call true (.k (.fn 16 [] [])) []),
 p (.mov (.r 0)),
 ⟨.load (some 4) (.v 10),some (0,true),[]⟩,
 ⟨.load (some 4) (.v 11),some (1,true),[]⟩,
 ⟨.call true (.k (.fn 19 [] [])) [.r 1,.r 0],some (2,true),[]⟩,
 p (.pick (.r 3) (.r 0) (.k (.bool false))),
 p (.mov (.r 0)),
 ⟨.load (some 4) (.v 10),some (0,true),[]⟩,
 ⟨.load (some 4) (.v 12),some (1,true),[]⟩,
 ⟨.call true (.k (.fn 19 [] [])) [.r 1,.r 0],some (2,true),[]⟩,
 p (.pick (.r 3) (.r 0) (.k (.bool false))),
 p (.mov (.r 0)),
 ⟨.fad 0 (.v 10),some (0,true),[]⟩,
 ⟨.load (none) (.r 0),some (1,true),[]⟩,
 ⟨.fad 0 (.v 4),some (2,true),[]⟩,
 ⟨.load (none) (.r 0),some (3,true),[]⟩,
 ⟨.bin .geq (.r 2) (.r 0),some (4,true),[]⟩,
 p (.pick (.r 5) (.r 0) (.k (.bool false))),
 p (.mov (.r 0))] [(8,.r 0)])
 .ret)))))))))
def c7:C :=
  (.seq
 (.reg false [p (.mov (.k (.bool false)))] [(0,.v 0)])
 (.seq
 (.reg false [p (.mov (.v 0)),
 p (.call true (.k (.fn 21 [] [])) [.r 0]),
 p (.mov (.r 0))] [(0,.r 0)])
 (.seq
 (.reg false [p (.mov (.v 0)),
 p (.call true (.k (.fn 23 [] [])) [.r 0]),
 p (.mov (.r 0)),
 p (.ext (.r 0) 0),
 p (.ext (.r 1) 1),
 p (.alloc 4 (.agg [.int .i64 0,.int .i64 0,.fsl .nil 2 [],.fsl .nil 5 []])),
 p (.store (some 4) (.r 0) (.r 2)),
 p (.mov (.r 2))] [(0,.v 0),(3,.r 2),(4,.r 0)])
 (.seq
 (.reg false [p (.alloc 4 (.agg [.int .i64 0,.int .i64 0,.fsl .nil 2 [],.fsl .nil 5 []]))] [(0,.v 0),(3,.v 3),(4,.v 4),(5,.r 0)])
 (.seq
 (.reg false [p (.mov (.k (.fsl .nil 6 [])))] [(0,.v 0),(3,.v 3),(4,.v 4),(5,.v 5),(6,.r 0)])
 (.seq
 (.seq
 (.reg false [p (.mov (.v 0)),
 p (.len false (.r 0)),
 p (.mov (.k (.int .i64 0)))] [(3,.v 3),(4,.v 4),(5,.v 5),(6,.v 6),(18,.r 2),(19,.r 1),(20,.r 0)])
 (.block 0
 (.loop
 (.seq
 (.reg false [p (.bin .lss (.v 20) (.v 19))] [(3,.v 3),(4,.v 4),(5,.v 5),(6,.v 6),(18,.v 18),(19,.v 19),(20,.v 20),(21,.r 0)])
 (.seq
 (.cond (.v 21)
 .skip
 (.exit 0))
 (.seq
 (.block 1
 (.seq
 (.reg false [p (.iad 8 (.v 18) (.v 20)),
 p (.load (some 8) (.r 0)),
 p (.alloc 8 (.agg [.int .i64 0,.str [],.str [],.int .i64 0,.int .i64 0,.str [],.str [],.fsl .nil 4 []])),
 p (.store (some 8) (.r 0) (.r 1))] [(3,.v 3),(4,.v 4),(5,.v 5),(6,.v 6),(8,.r 1),(18,.v 18),(19,.v 19),(20,.v 20)])
 (.seq
 (.reg false [p (.load (some 4) (.v 5)),
 p (.load (some 8) (.v 8)),
 p (.call true (.k (.fn 15 [] [])) [.r 1,.r 0]),
 p (.mov (.r 0)),
 p (.ext (.r 0) 0),
 p (.ext (.r 1) 1),
 p (.alloc 4 (.agg [.int .i64 0,.int .i64 0,.fsl .nil 2 [],.fsl .nil 5 []])),
 p (.alloc 6 (.agg [.int .i64 0,.str [],.int .i64 0,.int .i64 0,.int .i64 0,.fsl .nil 5 []])),
 p (.store (some 4) (.r 1) (.r 3)),
 p (.store (some 6) (.r 1) (.r 3))] [(3,.v 3),(4,.v 4),(5,.v 5),(6,.v 6),(9,.r 3),(10,.r 2),(18,.v 18),(19,.v 19),(20,.v 20)])
 (.reg true [p (.load (some 4) (.v 9)),
 p (.mov (.v 6)),
 p (.load (some 6) (.v 10)),
 p (.bsl 6 [.r 0]),
 ⟨.app 6 72 (.r 2) (.r 0),none,[3]⟩,
 p (.store (some 4) (.v 5) (.r 4)),
 p (.mov (.r 1))] [(3,.v 3),(4,.v 4),(5,.v 5),(6,.r 0),(18,.v 18),(19,.v 19),(20,.v 20)]))))
 (.reg false [p (.bin .add (.v 20) (.k (.int .i64 1))),
 p (.mov (.r 0))] [(3,.v 3),(4,.v 4),(5,.v 5),(6,.v 6),(18,.v 18),(19,.v 19),(20,.r 0)])))))))
 (.frz
 (.seq
 (.reg false [p (.call true (.k (.fn 16 [] [])) []),
 p (.mov (.r 0)),
 ⟨.load (some 4) (.v 3),some (0,true),[]⟩,
 ⟨.load (some 4) (.v 5),some (1,true),[]⟩,
 ⟨.call true (.k (.fn 19 [] [])) [.r 1,.r 0],some (2,true),[]⟩,
 p (.pick (.r 3) (.r 0) (.k (.bool false))),
 p (.mov (.r 0)),
 ⟨.mov (.v 4),some (0,true),[]⟩,
 ⟨.mov (.v 6),some (1,true),[]⟩,
 ⟨.call true (.k (.fn 24 [] [])) [.r 1,.r 0],some (2,true),[]⟩,
 p (.pick (.r 3) (.r 0) (.k (.bool false))),
 p (.mov (.r 0))] [(2,.r 0)])
 .ret))))))))
def zW:Wd:=⟨0,0,[],[]⟩
theorem zW_M:WdM zW:=⟨⟨by simp [zW],by simp [zW],by simp [zW],by simp [zW]⟩,by simp [zW]⟩
section
theorem zW_WR:WR zW:=by
  refine ⟨by simp [zW,MT],by simp [zW,MT],by simp [zW],by simp [zW], ?_, ?_,by simp [zW],by simp [zW], ?_⟩
  · intro i h; simp [zW,dagsN] at h
  · intro i h; simp [zW,runsN] at h
  · simp [zW,toksR,Tk]
def c3S:Cmd:=⟨3,[],[],0,0,[],⟨[],[]⟩⟩
theorem alive_do:doS zW c3S=(zW,whyA 192):=by
  unfold doS; rw [if_pos zW_WR]
  simp [kindW,c3S,pollS,zW,MT,fndS]
abbrev z4V:V:=V.agg [V.int .i64 0,V.int .i64 0,V.fsl .nil 2 [],V.fsl .nil 5 []]
abbrev z6V:V:=V.agg [V.int .i64 0,V.str [],V.int .i64 0,V.int .i64 0,V.int .i64 0,V.fsl .nil 5 []]
theorem setC_z4 (b:Wd):setC (some 4) 0 z4V (wdV b)=some (wdV b):=rfl
theorem setC_z6 (b:Ans):setC (some 6) 0 z6V (ansV b)=some (ansV b):=rfl
theorem getC_ans (b:Ans):getC (some 6) 0 (ansV b)=some (ansV b):=rfl
theorem getC_cmd (b:Cmd):getC (some 8) 0 (cmdV b)=some (cmdV b):=rfl
open Classical in
theorem law_alive20:PCall Tryz.prog 16 [] (.bool true):=by
  refine en16 (by simp) (by simp [closedL]) ?_
  have h1:PCall Tryz.prog 14 [z4V,V.agg [.int .i64 3,.str [],.str [],.int .i64 0,.int .i64 0,.str [],.str [],.fsl .nil 4 []]] (waV (zW,whyA 192)):=by
    have:=world_do zW c3S zW_M.ok (by simp [c3S,okDagL])
    rw [alive_do] at this
    exact this.of_eq (by simp [wdV,cmdV,c3S,zW,loL,lo,mv_nil,tasksV])
  have h2:PCall Tryz.prog 17 [z4V] (.bool true):=by
    have:=world_right zW zW_M.ok
    rw [decide_eq_true zW_WR] at this
    exact this.of_eq (by simp [wdV,zW,loL,lo,mv_nil])
  simp (maxSteps:=1000000) (disch:=omega) only [rg,gD,simprocAttr,c16]
  refine ⟨_,h1, ?_⟩
  simp (maxSteps:=1000000) (disch:=omega) only [rg,gD,simprocAttr,waV,setC_z4,setC_z6,getC_why,whyA]
  refine ⟨_,h2, ?_⟩
  simp (maxSteps:=1000000) (disch:=omega) only [rg,gD,simprocAttr]
  (refine fin_x rfl ?_ ?_<;>simp [pack,lo,loL,V.closed,closedL,mv_closed])
end
theorem reach_le:reachBytes≤4611686018427387904:=by decide
def yDag:Ty:=.st (fDag .nil)
theorem dag_ok0 {d:Dag} (h:okDag d):okDagL d:=by
  have hr:=reach_le
  obtain ⟨g1,g2,g3⟩:=h
  exact ⟨by omega,fun t ht => by obtain ⟨_,z2,_⟩:=g3 t ht; omega⟩
def Grow (w w':Wd):Prop:=w.now≤w'.now∧w.token≤w'.token∧w.dags.length≤w'.dags.length∧w.runs.length≤w'.runs.length
theorem Grow.refl (w:Wd):Grow w w:=⟨Int.le_refl _,Int.le_refl _,Nat.le_refl _,Nat.le_refl _⟩
theorem twice (w:Wd) (c:Cmd) (h:WR w) (hk:c.kind=1∨c.kind=2):kindW (kindW w c).1 c=kindW w c:=by
  have hR:=keeps w c h
  rcases hk with k1 | k2
  · have e:∀ x,kindW x c=graphS x c.dag:=fun x => by unfold kindW; rw [if_pos k1]
    rw [e] at hR
    rw [e,e]
    by_cases c1:dagRightS c.dag≠0
    · have e1:∀ x,graphS x c.dag=(x,whyA (dagRightS c.dag)):=fun x => by unfold graphS; rw [if_pos c1]
      rw [e1,e1]
    by_cases c2:c.dag.name∈dagsN w.dags
    · by_cases c3:c.dag∈w.dags
      · have e1:graphS w c.dag=(w,whyA 0):=by unfold graphS; rw [if_neg c1,if_pos c2,if_pos c3]
        rw [e1]; exact e1
      · have e1:graphS w c.dag=(w,whyA 161):=by unfold graphS; rw [if_neg c1,if_pos c2,if_neg c3]
        rw [e1]; exact e1
    by_cases c4:16≤w.dags.length
    · have e1:graphS w c.dag=(w,whyA 2):=by unfold graphS; rw [if_neg c1,if_neg c2,if_pos c4]
      rw [e1]; exact e1
    have e1:graphS w c.dag=({ w with dags:=putD w.dags c.dag },whyA 0):=by unfold graphS; rw [if_neg c1,if_neg c2,if_neg c4]
    rw [e1]
    have hm:c.dag∈putD w.dags c.dag:=by unfold putD; simp
    show graphS { w with dags:=putD w.dags c.dag } c.dag=_
    unfold graphS
    rw [if_neg c1,if_pos (show c.dag.name∈dagsN (putD w.dags c.dag) from List.mem_map.2 ⟨_,hm,rfl⟩),if_pos hm]
  · have e:∀ x,kindW x c=beginS x c.key c.name:=fun x => by unfold kindW; rw [if_neg (by omega),if_pos k2]
    rw [e] at hR
    rw [e,e]
    by_cases c1:c.key.length < 1∨16 < c.key.length
    · have e1:beginS w c.key c.name=(w,whyA 1):=by unfold beginS; rw [if_pos c1]
      rw [e1]; exact e1
    by_cases c2:c.name∉dagsN w.dags
    · have e1:beginS w c.key c.name=(w,whyA 161):=by unfold beginS; rw [if_neg c1,if_pos c2]
      rw [e1]; exact e1
    by_cases c3:c.key∈runsN w.runs
    · by_cases c4:(w.runs.getD (lbR c.key w.runs) zR).dag.name≠c.name
      · have e1:beginS w c.key c.name=(w,whyA 190):=by unfold beginS; rw [if_neg c1,if_neg c2,if_pos c3,if_pos c4]
        rw [e1]; exact e1
      · have e1:beginS w c.key c.name=(w,whyA 0):=by unfold beginS; rw [if_neg c1,if_neg c2,if_pos c3,if_neg c4]
        rw [e1]; exact e1
    by_cases c4:64≤w.runs.length
    · have e1:beginS w c.key c.name=(w,whyA 2):=by unfold beginS; rw [if_neg c1,if_neg c2,if_neg c3,if_pos c4]
      rw [e1]; exact e1
    have e1:beginS w c.key c.name=({ w with runs:=putR w.runs (newS c.key (w.dags.getD (lbD c.name w.dags) zD)) },whyA 0):=by unfold beginS; rw [if_neg c1,if_neg c2,if_neg c3,if_neg c4]
    rw [e1] at hR
    rw [e1]
    obtain ⟨hi,hnm⟩:=lbD_get h.rdags (Classical.not_not.1 c2)
    rw [getD_get hi] at hR ⊢
    have hnk:=new_key c.key w.dags[lbD c.name w.dags]
    have hnd:(newS c.key w.dags[lbD c.name w.dags]).dag=w.dags[lbD c.name w.dags]:=(mendS_shp _).dag
    generalize newS c.key w.dags[lbD c.name w.dags]=nr at hnk hnd hR ⊢
    have hm:nr∈putR w.runs nr:=by unfold putR; simp
    obtain ⟨i,hil,hie⟩:=List.mem_iff_getElem.1 hm
    obtain ⟨g1,g2⟩:=lbR_at (l:=putR w.runs nr) hR.rruns hil
    rw [hie,hnk] at g1 g2
    show beginS { w with runs:=putR w.runs nr } c.key c.name=_
    unfold beginS
    rw [if_neg c1,if_neg c2,if_pos g2]
    simp only [g1,getD_get hil,hie,hnd,hnm,ne_eq,not_true_eq_false,if_false]
theorem do_keeps {w:Wd} (c:Cmd) (h:WR w):WR (doS w c).1:=by unfold doS; rw [if_pos h]; exact keeps w c h
def kk:Str:=[107]
def cX (k tok:Int) (t:Int) (x:Str):Cmd:=⟨k,[],[],tok,t,x,⟨[],[]⟩⟩
structure Jw (d:Dag) (j:Nat) (w:Wd) (r:Rn):Prop where
  W:WR w
  M:WdM w
  dags:w.dags=[d]
  runs:w.runs=[r]
  key:r.key=kk
  run:Jr d j w.now r
  token:w.token=j
  now:w.now≤4194304*j
theorem kind_at {w:Wd} {c:Cmd} (h:WR w):doS w c=kindW w c:=by unfold doS; rw [if_pos h]
theorem fnd_one {α:Type} {p:α→Bool} {a:α} (h:p a=true):fndS p 0 [a]=some 0:=by simp [fndS,h]
theorem lb_one {r:Rn}:lbR r.key [r]=0:=by simp [lbR,lbS,runsN,lt_irr]
theorem wround_lease {d:Dag} {j:Nat} {w:Wd} {r:Rn} (h:Jw d j w r) (hj:j≤80) :
    ∃ (i:Nat) (r1:Rn),(doS w (cX 8 0 (w.now+2097152) [])).1={ w with now:=w.now+2097152 } ∧
      doS { w with now:=w.now+2097152 } (cX 3 0 0 [])=({ w with now:=w.now+2097152,token:=(j:Int)+1,runs:=[r1] },⟨0,kk,i,(j:Int)+1,0,[]⟩) ∧
      Ls d j (w.now+2097152) ((j:Int)+1) (settleS w.now r) r1 i∧r1.key=kk:=by
  have hMT:MT=1099511627776:=rfl
  have hn:=h.W.now
  have hnow:=h.now
  have htok:=h.token
  have hb:∀ s∈r.states,s.token < (j:Int)+1:=fun s hs => by
    have:=h.W.toks.1 s.token (by rw [h.runs]; simp only [toksR,List.map_cons,List.map_nil,List.flatten_cons,List.flatten_nil,List.append_nil]; exact List.mem_map.2 ⟨s,hs,rfl⟩)
    omega
  obtain ⟨i,r1,e1,e2⟩:=round_lease h.run (by omega) (by omega) (tok:=(j:Int)+1) ⟨by omega,by omega⟩ hb
  have hk1:r1.key=kk:=by rw [e2.key,(settleS_shp w.now r).key]; exact h.key
  have ht:(doS w (cX 8 0 (w.now+2097152) [])).1={ w with now:=w.now+2097152 }:=by
    rw [show cX 8 0 (w.now+2097152) []=cX 8 0 (w.now+2097152) [] from rfl,kind_at h.W]
    have hz:kindW w (cX 8 0 (w.now+2097152) [])=tickW w (w.now+2097152):=by
      have e:(cX 8 0 (w.now+2097152) []).kind=8:=rfl
      unfold kindW
      rw [if_neg (by omega),if_neg (by omega),if_neg (by omega),if_neg (by omega),if_neg (by omega),if_neg (by omega),if_neg (by omega),if_pos e]; rfl
    rw [hz]; unfold tickW
    rw [if_neg (by omega)]
    simp only
    rw [show max w.now (w.now+2097152)=w.now+2097152 by omega]
  have hW1:WR { w with now:=w.now+2097152 }:=ht ▸ do_keeps _ h.W
  refine ⟨i,r1,ht, ?_,e2,hk1⟩
  rw [kind_at hW1]
  have hz:kindW { w with now:=w.now+2097152 } (cX 3 0 0 [])=pollS { w with now:=w.now+2097152 }:=by
    have e:(cX 3 0 0 []).kind=3:=rfl
    unfold kindW
    rw [if_neg (by omega),if_neg (by omega),if_pos e]
  rw [hz]; unfold pollS
  rw [if_neg (by simp only; omega)]
  have hp:leaseP (w.now+2097152) (w.token+1) r=true:=by unfold leaseP; rw [htok,e1]; rfl
  simp only [h.runs,fnd_one hp]
  rw [getD_get (by simp)]
  simp only [List.getElem_cons_zero,htok,e1,List.set_cons_zero,h.key]
theorem wround_told {d:Dag} {j:Nat} {w:Wd} {r1:Rn} {q:Rn} {i:Nat} {k:Int} {f:Task→Stt→Stt×Int} (hw:WR w) (hr:w.runs=[r1]) (hk:r1.key=kk) (hl:Ls d j w.now ((j:Int)+1) q r1 i)
    (hf:AnsOk f) (hfo:∀ t s,0≤t.wait→t.wait≤1048576→s.is=2→(f t s).2=0∧(f t s).1.is≠2∧(f t s).1.tried=s.tried∧(f t s).1.due≤w.now+1048576) :
    ∃ r2,toldW w f ((j:Int)+1)=({ w with runs:=[r2] },⟨0,kk,0,0,0,[]⟩)∧r2.key=kk∧(∀ t,settleS t r2=r2)∧(r2.is=0∨r2.is=1∨r2.is=2)∧(r2.is=0→Jr d ((j:Int)+1) w.now r2):=by
  obtain ⟨r2,e1,e2,e3,e4⟩:=round_told hl (by have:=hw.now; omega) hw.now.2 hf hfo
  have hat:=hl.at
  have hp:hasP ((j:Int)+1) r1=true:=List.any_eq_true.2 ⟨_,List.getElem_mem hl.len,by simp [holdP,hat.1,hat.2.1]⟩
  have hkey:r2.key=kk:=by
    have:=told_key (now:=w.now) (token:=(j:Int)+1) (f:=f) (r:=r1) (by rw [e1])
    rw [e1] at this; exact this.trans hk
  refine ⟨r2, ?_,hkey,e2,e3,e4⟩
  unfold toldW
  simp only [hr,fnd_one hp]
  rw [getD_get (by simp)]
  simp only [List.getElem_cons_zero,e1,ne_eq,not_true_eq_false,if_false,List.set_cons_zero,hk]
def cK (k:Str):Cmd:=⟨9,k,[],0,0,[],⟨[],[]⟩⟩
def cA (m tok now:Int):Cmd:=if m=1 then cX 6 tok 0 [114] else if m=2 then cX 8 0 (now+2097152) [] else cX 5 tok 0 [114]
theorem state_one {w:Wd} {r:Rn} (hw:WR w) (hr:w.runs=[r]) (hk:r.key=kk):doS w (cK kk)=(w,⟨0,(settleS w.now r).key,0,0,(settleS w.now r).is,(settleS w.now r).states⟩):=by
  rw [kind_at hw]
  have hz:kindW w (cK kk)=stateW w kk:=by
    have e:(cK kk).kind=9:=rfl
    unfold kindW
    rw [if_neg (by omega),if_neg (by omega),if_neg (by omega),if_neg (by omega),if_neg (by omega),if_neg (by omega),if_neg (by omega),if_neg (by omega),if_pos e]; rfl
  rw [hz]; unfold stateW
  have hm:kk∈runsN w.runs:=by rw [hr]; simp [runsN,hk]
  rw [if_neg (fun e => e hm)]
  have hl:lbR kk w.runs=0:=by rw [hr,← hk]; exact lb_one
  rw [hl,hr,getD_get (by simp)]; rfl
structure Jx (d:Dag) (j:Nat) (w:Wd) (z:Wd×Ans) (b:Ans):Prop where
  why:z.2.why=0
  W:WR z.1
  M:WdM z.1
  st:doS z.1 (cK kk)=(z.1,b)
  whyb:b.why=0
  is:b.is=0∨b.is=1∨b.is=2
  next:b.is=0→∃ r2,Jw d (j+1) z.1 r2
theorem wround_answer {d:Dag} {j:Nat} {w:Wd} {q r1:Rn} {i:Nat} (m:Int) (hW:WR w) (hM:WdM w) (hd:w.dags=[d]) (hr:w.runs=[r1]) (hk:r1.key=kk) (hl:Ls d j w.now ((j:Int)+1) q r1 i) (htok:w.token=(j:Int)+1) (hnow:w.now≤4194304*j+2097152) (hj:j≤80) :
    ∃ b,Jx d j w (doS w (cA m ((j:Int)+1) w.now)) b:=by
  have hMT:MT=1099511627776:=rfl
  have hn:=hW.now
  have hM':∀ c:Cmd,okDagL c.dag→WdM (doS w c).1:=fun c hc => do_M w c hM hc
  have hW':∀ c:Cmd,WR (doS w c).1:=fun c => do_keeps c hW
  have htold:∀ (k:Int) (f:Task→Stt→Stt×Int),kindW w (cX k ((j:Int)+1) 0 [114])=toldW w f ((j:Int)+1)→AnsOk f →
      (∀ t s,0≤t.wait→t.wait≤1048576→s.is=2→(f t s).2=0∧(f t s).1.is≠2∧(f t s).1.tried=s.tried∧(f t s).1.due≤w.now+1048576) →
      ∃ b,Jx d j w (doS w (cX k ((j:Int)+1) 0 [114])) b:=fun k f hkk hf hfo => by
    obtain ⟨r2,e1,e2,e3,e4,e5⟩:=wround_told (k:=k) hW hr hk hl hf hfo
    have hdo:doS w (cX k ((j:Int)+1) 0 [114])=({ w with runs:=[r2] },⟨0,kk,0,0,0,[]⟩):=by rw [kind_at hW,hkk,e1]
    have h1:=hW' (cX k ((j:Int)+1) 0 [114])
    have h2:=hM' (cX k ((j:Int)+1) 0 [114]) (by simp [cX,okDagL])
    rw [hdo] at h1 h2 ⊢
    have hst:=state_one (w:={ w with runs:=[r2] }) h1 rfl e2
    refine ⟨_,rfl,h1,h2,hst,rfl, ?_,fun h0 => ⟨r2,h1,h2,hd,rfl,e2, ?_, ?_, ?_⟩⟩
    · show (settleS w.now r2).is=0∨_; rw [e3]; exact e4
    · refine e5 ?_; have:(settleS w.now r2).is=0:=h0; rwa [e3] at this
    · show w.token=_; rw [htok]; simp
    · show w.now≤_; simp only [Int.natCast_add,Int.natCast_one] at *; omega
  unfold cA
  by_cases m1:m=1
  · rw [if_pos m1]
    refine htold 6 (fun t s => tfailS t s w.now) ?_ (fun t s h1 h2 _ => by obtain ⟨a,b,c,d⟩:=fail_R (now:=w.now) h1 h2; exact ⟨a,b,c,.inr d⟩) (fun t s h1 h2 h3 => ?_)
    · have e:(cX 6 ((j:Int)+1) 0 [114]).kind=6:=rfl
      unfold kindW
      rw [if_neg (by omega),if_neg (by omega),if_neg (by omega),if_neg (by omega),if_neg (by omega),if_pos e]; rfl
    · have ha:=afterS_range t.wait s.tried
      simp only [MW] at ha
      unfold tfailS
      rw [if_neg (by omega)]
      split
      · refine ⟨rfl,by simp,rfl,by simp only; omega⟩
      · refine ⟨rfl,by simp,rfl, ?_⟩
        simp only; rw [untilS_two]; unfold clampS; omega
  rw [if_neg m1]
  by_cases m2:m=2
  · rw [if_pos m2]
    obtain ⟨e4,e5⟩:=round_tick hl hn.1
    have hdo:doS w (cX 8 0 (w.now+2097152) [])=({ w with now:=w.now+2097152 },whyA 0):=by
      rw [kind_at hW]
      have hz:kindW w (cX 8 0 (w.now+2097152) [])=tickW w (w.now+2097152):=by
        have e:(cX 8 0 (w.now+2097152) []).kind=8:=rfl
        unfold kindW
        rw [if_neg (by omega),if_neg (by omega),if_neg (by omega),if_neg (by omega),if_neg (by omega),if_neg (by omega),if_neg (by omega),if_pos e]; rfl
      rw [hz]; unfold tickW
      rw [if_neg (by omega),show max w.now (w.now+2097152)=w.now+2097152 by omega]
    have h1:=hW' (cX 8 0 (w.now+2097152) [])
    have h2:=hM' (cX 8 0 (w.now+2097152) []) (by simp [cX,okDagL])
    rw [hdo] at h1 h2 ⊢
    have hst:=state_one (w:={ w with now:=w.now+2097152 }) h1 hr hk
    refine ⟨_,rfl,h1,h2,hst,rfl,e4,fun h0 => ⟨r1,h1,h2,hd,hr,hk,e5 h0, ?_, ?_⟩⟩
    · show w.token=_; rw [htok]; simp
    · show w.now+2097152≤_; simp only [Int.natCast_add,Int.natCast_one] at *; omega
  · rw [if_neg m2]
    refine htold 5 (fun t s => tdoneS s [114]) ?_ (fun t s h1 h2 h3 => by obtain ⟨a,b,c,d⟩:=done_R h1 h2 h3; exact ⟨a,b,c,.inr d⟩) (fun t s h1 h2 h3 => ?_)
    · have e:(cX 5 ((j:Int)+1) 0 [114]).kind=5:=rfl
      unfold kindW
      rw [if_neg (by omega),if_neg (by omega),if_neg (by omega),if_neg (by omega),if_pos e]; rfl
    · unfold tdoneS
      rw [if_neg (by omega),if_neg (by simp)]
      exact ⟨rfl,by simp,rfl,by simp only; omega⟩
theorem all_tried {d:Dag} {j:Nat} {w:Wd} {r:Rn} (h:Jw d j w r):(j:Int) < triesS d.tasks:=by
  have hq:=settle_R (now:=w.now) h.run.R
  obtain ⟨i,hi,e⟩:=open_free hq h.run.is h.run.held
  have hqd:(settleS w.now r).dag=d:=(settleS_shp w.now r).dag.trans h.run.dag
  have hlen:=hq.len
  have hs:=h.run.sum
  rw [← hs,← hqd]
  refine sum_lt hlen (fun k hk hk2 => ((trs_stands (hq.trs hk)).2).1) hi (by omega) ?_
  have:=(trs_stands (hq.trs hi)).2
  obtain ⟨t1,t2⟩:=this
  omega
noncomputable def foldS (w:Wd):List Cmd→Wd×List Ans
  | [] => (w,[])
  | c::l => ((foldS (doS w c).1 l).1,(doS w c).2::(foldS (doS w c).1 l).2)
theorem foldS_snoc (c:Cmd):∀ (l:List Cmd) (w:Wd),foldS w (l++[c])=((doS (foldS w l).1 c).1,(foldS w l).2++[(doS (foldS w l).1 c).2])
  | [],w => rfl
  | a::l,w => by simp only [List.cons_append,foldS,foldS_snoc c l]
theorem foldS_take {l:List Cmd} {k:Nat} (w:Wd) (h:k < l.length):foldS w (l.take (k+1))=((doS (foldS w (l.take k)).1 l[k]).1,(foldS w (l.take k)).2++[(doS (foldS w (l.take k)).1 l[k]).2]):=by
  rw [List.take_succ_eq_append_getElem h,foldS_snoc]
theorem foldS_M:∀ (l:List Cmd) (w:Wd),WdM w→(∀ c∈l,okDagL c.dag)→WdM (foldS w l).1
  | [],w,h,_ => h
  | c::l,w,h,hd => foldS_M l _ (do_M w c h (hd c (by simp))) (fun c hc => hd c (by simp [hc]))
theorem foldS_len:∀ (l:List Cmd) (w:Wd),(foldS w l).2.length=l.length
  | [],w => rfl
  | c::l,w => by simp [foldS,foldS_len l]
def cmdsV (l:List Cmd):V:=.fsl .loose 8 (mv cmdV l)
abbrev z8V:V:=V.agg [V.int .i64 0,V.str [],V.str [],V.int .i64 0,V.int .i64 0,V.str [],V.str [],V.fsl .nil 4 []]
theorem setC_z8 (b:Cmd):setC (some 8) 0 z8V (cmdV b)=some (cmdV b):=rfl
def wz (k:Nat) (w:Wd):V:=if k=0 then z4V else wdV w
theorem wz_lo (k:Nat) (w:Wd) (h:k=0→w=zW):lo (wz k w)=wdV w:=by
  unfold wz; split
  · rename_i e; rw [h e]; simp [lo,loL,wdV,zW,mv_nil]
  · exact wdV_lo w
theorem wz_closed (k:Nat) (w:Wd):(wz k w).closed=true:=by
  unfold wz; split
  · rfl
  · exact wdV_closed w
theorem getC_wz (k:Nat) (w:Wd):getC (some 4) 0 (wz k w)=some (wz k w):=by unfold wz; split<;>rfl
theorem setC_wz (k:Nat) (w b:Wd):setC (some 4) 0 (wz k w) (wdV b)=some (wdV b):=by unfold wz; split<;>rfl
theorem setC_z4z (k:Nat) (w:Wd):setC (some 4) 0 z4V (wz k w)=some (wz k w):=by unfold wz; split<;>rfl
theorem world_fold (l:List Cmd) (hl:l.length≤1000000) (hd:∀ c∈l,okDagL c.dag):PCall Tryz.prog 23 [cmdsV l] (.tup [wdV (foldS zW l).1,anssV (foldS zW l).2]):=by
  refine en23 (by simp) (by simp [closedL,cmdsV,V.closed,mv_closed cmdV_closed]) ?_
  simp (maxSteps:=1000000) (disch:=omega) only [rg,gD,simprocAttr,c23,cmdsV,mv_len]
  refine x_it l.length (fun k σ H => 2≤H.n∧H.m 0=some (.arr 4 [z4V])∧H.m 1=some (.arr 4 [wz k (foldS zW (l.take k)).1])∧(∃ v,Gro 2 H.n H.m 6 v (mv ansV (foldS zW (l.take k)).2) ∧
    σ=[(2,.ptr 0 0 0),(4,.ptr 1 0 0),(5,v),(9,.fsl .loose 8 (mv cmdV l)),(10,.int .i64 (l.length:Int)),(11,.int .i64 (k:Int))])) ⟨Nat.le_refl 2,(by simp (disch:=omega) only [upd_eq,upd_ne,wo_0,wo_1,wo_2]),(by simp (disch:=omega) only [upd_eq,upd_ne,wo_0,wo_1,wo_2,wz,if_true]),.fsl .nil 6 [],.nil,rfl⟩ ?_
  rintro T k σ ⟨n,m⟩ hkk ⟨hn,e0,e1,v,hg,rfl⟩ hN hX hR
  simp only at hn e0 e1 hg
  have hlen:=foldS_len (l.take k) zW
  have hM:=foldS_M (l.take k) zW zW_M (fun c hc => hd c (List.mem_of_mem_take hc))
  have hz0:k=0→(foldS zW (l.take k)).1=zW:=by rintro rfl; rfl
  by_cases hk:k < l.length
  · have hfk:=foldS_take zW hk
    have hdo:=(world_do _ l[k] hM.ok (hd _ (List.getElem_mem hk)))
    have hdo2:PCall Tryz.prog 14 [wz k (foldS zW (l.take k)).1,cmdV l[k]] (waV (doS (foldS zW (l.take k)).1 l[k])) :=
      hdo.of_eq (by simp only [loL,wz_lo k _ hz0,cmdV_lo])
    generalize doS (foldS zW (l.take k)).1 l[k]=z at hdo2 hfk
    unfold waV at hdo2
    have l1:(1:Nat)≠n:=by omega
    have l2:(1:Nat)≠n+1:=by omega
    have l3:(0:Nat)≠n:=by omega
    have l4:(0:Nat)≠n+1:=by omega
    simp (maxSteps:=1000000) (disch:=omega) only [rg,gD,simprocAttr,show (k:Int) < l.length by omega,mv_get hk,Int.toNat_natCast,getC_cmd,setC_z8,e1,getC_wz]
    refine ⟨_,hdo2, ?_⟩
    simp (maxSteps:=1000000) (disch:=omega) only [rg,gD,simprocAttr,e1,setC_wz,setC_z6,getC_ans]
    refine ⟨⟨rfl,rfl⟩, ?_⟩
    refine app_gro (lo:=2) (bt:=72) (hg.keep (by simp only []; omega) (fun id h1 h2 => by simp (disch:=omega) only [upd_ne])) (by simp only []; omega) (ys:=[ansV z.2]) (by rfl) (by simp) (by rw [mv_len]; simp at hlen ⊢; omega) fun v' fp ds hg' hlo hkp => ?_
    have z0:=hlo 0 (by omega)
    have z1:=hlo 1 (by omega)
    simp (disch:=omega) only [upd_ne,upd_eq,e0,e1] at z0 z1
    rw [x_nx]
    refine ⟨by simp only [compat_nil], ?_⟩
    simp only [] at z0 z1 hg' hkp ⊢
    generalize appd ds _=m5 at z0 z1 hg' ⊢
    simp (maxSteps:=1000000) (disch:=omega) only [rg,gD,simprocAttr]
    refine hN _ _ hk ⟨by simp only []; omega,z0, ?_,v', ?_,rfl⟩
    · show m5 1=_
      rw [z1,hfk]; simp [wz]
    · rw [hfk,← mv_app]; exact hg'
  · obtain rfl:k=l.length:=by omega
    rw [List.take_length] at e1 hg hlen hM
    simp (maxSteps:=1000000) (disch:=omega) only [rg,gD,simprocAttr,Int.lt_irrefl]
    refine hX _ _ _ ?_
    simp (maxSteps:=1000000) (disch:=omega) only [rg,gD,simprocAttr]
    refine x_frz0 ?_
    simp (maxSteps:=1000000) (disch:=omega) only [rg,gD,simprocAttr,e0,e1,getC_wz,setC_z4z]
    have hg2:Gro 2 n (upd m 0 (some (.arr 4 [wz l.length (foldS zW l).1]))) 6 v (mv ansV (foldS zW l).2):=hg.keep (Nat.le_refl n) (fun id h1 h2 => by simp (disch:=omega) only [upd_ne])
    obtain ⟨st,hs⟩:=hg2.snap (mv_closed ansV_closed) 2
    refine fin_y (v:=.tup [wz l.length (foldS zW l).1,.fsl st 6 (mv ansV (foldS zW l).2)]) (l:=[wz l.length (foldS zW l).1,v])
      (by simp only [r23,resE,find,loadO,upd_eq,reduceIte,Nat.reduceEqDiff,List.getElem?_cons_zero,getC_wz]) ?_ ?_
    · exact snap_tup (mapO_c (snap_cl (wz_closed _ _)) (mapO_c hs (mapO_closed rfl)))
    · have e:=wz_lo l.length (foldS zW l).1 (fun h => by rw [List.length_eq_zero_iff.1 h]; rfl)
      simp only [lo,loL,e,anssV,mv_lo ansV_lo]
def c1S (d:Dag):Cmd:=⟨1,[],[],0,0,[],d⟩
def c2S (d:Dag):Cmd:=⟨2,kk,d.name,0,0,[],⟨[],[]⟩⟩
theorem begin_bad {d:Dag} (h:dagRightS d≠0):foldS zW [c1S d,c2S d]=(zW,[whyA (dagRightS d),whyA 161]):=by
  have e1:doS zW (c1S d)=(zW,whyA (dagRightS d)):=by
    rw [kind_at zW_WR]
    have e:(c1S d).kind=1:=rfl
    unfold kindW; rw [if_pos e]
    show graphS zW d=_
    unfold graphS; rw [if_pos h]
  have e2:doS zW (c2S d)=(zW,whyA 161):=by
    rw [kind_at zW_WR]
    have e:(c2S d).kind=2:=rfl
    unfold kindW; rw [if_neg (by omega),if_pos e]
    show beginS zW kk d.name=_
    unfold beginS; rw [if_neg (by simp [kk]),if_pos (by simp [zW,dagsN])]
  simp only [foldS,e1,e2]
theorem begin_ok {d:Dag} (h:dagRightS d=0) (hd:okDagL d):∃ w,foldS zW [c1S d,c2S d]=(w,[whyA 0,whyA 0])∧Jw d 0 w (newS kk d):=by
  have e1:doS zW (c1S d)=({ zW with dags:=[d] },whyA 0):=by
    rw [kind_at zW_WR]
    have e:(c1S d).kind=1:=rfl
    unfold kindW; rw [if_pos e]
    show graphS zW d=_
    unfold graphS; rw [if_neg (by simp [h]),if_neg (by simp [zW,dagsN]),if_neg (by simp [zW])]
    rfl
  have hW1:WR { zW with dags:=[d] }:=by have:=do_keeps (c1S d) zW_WR; rwa [e1] at this
  have hM1:WdM { zW with dags:=[d] }:=by have:=do_M zW (c1S d) zW_M hd; rwa [e1] at this
  have hlb:lbD d.name [d]=0:=by simp [lbD,lbS,dagsN,lt_irr]
  have e2:doS { zW with dags:=[d] } (c2S d)=({ zW with dags:=[d],runs:=[newS kk d] },whyA 0):=by
    rw [kind_at hW1]
    have e:(c2S d).kind=2:=rfl
    unfold kindW; rw [if_neg (by omega),if_pos e]
    show beginS { zW with dags:=[d] } kk d.name=_
    unfold beginS
    rw [if_neg (by simp [kk]),if_neg (by simp [dagsN]),if_neg (by simp [zW,runsN]),if_neg (by simp [zW])]
    simp only [hlb,zW,getD_get (show 0 < [d].length by simp),List.getElem_cons_zero]
    simp [putR]
  have hW2:WR { zW with dags:=[d],runs:=[newS kk d] }:=by have:=do_keeps (c2S d) hW1; rwa [e2] at this
  have hM2:WdM { zW with dags:=[d],runs:=[newS kk d] }:=by have:=do_M _ (c2S d) hM1 (by simp [c2S,okDagL]); rwa [e2] at this
  refine ⟨_,by simp only [foldS,e1,e2],hW2,hM2,rfl,rfl,new_key kk d,Jr.start (by simp [kk]) h,rfl,by simp [zW]⟩
theorem tries_le {d:Dag} (h:dagRightS d=0):0≤triesS d.tasks∧triesS d.tasks≤80:=by
  have hn:=dag_nums h
  have hl:=(dag_okn h).1
  have:∀ l:List Task,(∀ t∈l,1≤t.tries∧t.tries≤8)→0≤triesS l∧triesS l≤8*l.length:=by
    intro l
    induction l with
    | nil => intro _; simp [triesS]
    | cons t l ih =>
      intro k
      have:=ih fun t ht => k t (by simp [ht])
      have:=k t (by simp)
      simp only [triesS,List.map_cons,List.sum_cons,List.length_cons] at *
      omega
  have:=this d.tasks fun t ht => ⟨(hn t ht).1,(hn t ht).2.1⟩
  omega
theorem tries_take {l:List Task} {k:Nat} (h:k < l.length):triesS (l.take (k+1))=triesS (l.take k)+l[k].tries:=by
  rw [List.take_succ_eq_append_getElem h]
  simp only [triesS,List.map_append,List.map_cons,List.map_nil,List.sum_append,List.sum_cons,List.sum_nil]
  omega
theorem Gro.id {lo n:Nat} {m:Hm} {sz:Nat} {l:List V} {p k:Nat} (h:Gro lo n m sz (.sl p 0 k) l):lo≤p∧p < n:=by
  rcases h with ⟨st,_,e,_⟩ | ⟨id,h1,h2,e,_⟩
  · cases e
  · simp at e; rw [e.1]; exact ⟨h1,h2⟩
def tk (w:Wd) (t:Int):Wd:=if t < 0∨MT < t then w else { w with now:=max w.now t }
theorem getC_now (w:Wd):getC none 0 (wdV w)=some (.int .i64 w.now):=rfl
abbrev cl (k:Int) (key:Str) (t:Int):V:=V.agg [.int .i64 k,.str key,.str [],.int .i64 0,.int .i64 t,.str [],.str [],.fsl .nil 4 []]
theorem do_cl {w:Wd} (hm:WdM w) {k:Int} {key:Str} {t:Int} {z:Wd×Ans} (hz:doS w ⟨k,key,[],0,t,[],⟨[],[]⟩⟩=z):PCall Tryz.prog 14 [wdV w,cl k key t] (waV z):=by
  have:=world_do w ⟨k,key,[],0,t,[],⟨[],[]⟩⟩ hm.ok (by simp [okDagL])
  rw [hz] at this
  exact this.of_eq (by simp [loL,lo,wdV_lo,cmdV,tasksV,mv_nil])
def c8:C :=
  (.seq
 (.reg false [p (.box 2 (.v 0)),
 p (.mov (.k (.bool false)))] [(1,.v 1),(2,.r 1)])
 (.seq
 (.reg false [p (.load (some 2) (.v 2)),
 p (.build [.int .i64 0,.str [],.str [],.int .i64 0,.int .i64 0,.str [],.str [],.fsl .nil 4 []] [(0,1,.k (.int .i64 1)),(6,2,.r 0)]),
 p (.fad 0 (.v 2)),
 p (.load (none) (.r 0)),
 p (.build [.int .i64 0,.str [],.str [],.int .i64 0,.int .i64 0,.str [],.str [],.fsl .nil 4 []] [(0,1,.k (.int .i64 2)),(1,1,.k (.str [107])),(2,1,.r 0)]),
 p (.bsl 8 [.r 3,.r 0]),
 p (.call true (.k (.fn 23 [] [])) [.r 0]),
 p (.mov (.r 0)),
 p (.ext (.r 0) 0),
 p (.ext (.r 1) 1),
 p (.alloc 4 (.agg [.int .i64 0,.int .i64 0,.fsl .nil 2 [],.fsl .nil 5 []])),
 p (.store (some 4) (.r 0) (.r 2)),
 p (.mov (.r 2))] [(1,.v 1),(2,.v 2),(5,.r 2),(6,.r 0)])
 (.seq
 (.seq
 (.reg false [p (.mov (.v 6)),
 p (.len false (.r 0)),
 p (.bin .neq (.r 0) (.k (.int .i64 2))),
 p (.mov (.r 0)),
 ⟨.mov (.v 6),some (0,false),[]⟩,
 ⟨.iad 6 (.r 0) (.k (.int .i64 0)),some (1,false),[]⟩,
 ⟨.fad 0 (.r 0),some (2,false),[]⟩,
 ⟨.load (none) (.r 0),some (3,false),[]⟩,
 ⟨.bin .neq (.r 0) (.k (.int .i64 0)),some (4,false),[]⟩,
 p (.pick (.r 5) (.k (.bool true)) (.r 0)),
 p (.mov (.r 0)),
 ⟨.fad 3 (.v 5),some (0,false),[]⟩,
 ⟨.load (none) (.r 0),some (1,false),[]⟩,
 ⟨.len false (.r 0),some (2,false),[]⟩,
 ⟨.bin .neq (.r 0) (.k (.int .i64 1)),some (3,false),[]⟩,
 p (.pick (.r 4) (.k (.bool true)) (.r 0))] [(1,.v 1),(2,.v 2),(5,.v 5),(40,.r 0)])
 (.cond (.v 40)
 (.seq
 (.reg false [p (.call true (.k (.fn 16 [] [])) []),
 p (.mov (.r 0)),
 ⟨.fad 3 (.v 5),some (0,true),[]⟩,
 ⟨.load (none) (.r 0),some (1,true),[]⟩,
 ⟨.len false (.r 0),some (2,true),[]⟩,
 ⟨.bin .eql (.r 0) (.k (.int .i64 0)),some (3,true),[]⟩,
 p (.pick (.r 4) (.r 0) (.k (.bool false))),
 p (.mov (.r 0))] [(4,.r 0)])
 .ret)
 .skip))
 (.seq
 (.reg false [p (.mov (.k (.int .i64 0)))] [(1,.v 1),(2,.v 2),(5,.v 5),(7,.r 0)])
 (.seq
 (.seq
 (.reg false [p (.fad 1 (.v 2)),
 p (.load (none) (.r 0)),
 p (.len false (.r 0)),
 p (.mov (.k (.int .i64 0)))] [(1,.v 1),(5,.v 5),(7,.v 7),(49,.r 2),(50,.r 1),(51,.r 0)])
 (.block 0
 (.loop
 (.seq
 (.reg false [p (.bin .lss (.v 51) (.v 50))] [(1,.v 1),(5,.v 5),(7,.v 7),(49,.v 49),(50,.v 50),(51,.v 51),(52,.r 0)])
 (.seq
 (.cond (.v 52)
 .skip
 (.exit 0))
 (.seq
 (.block 1
 (.seq
 (.reg false [p (.iad 4 (.v 49) (.v 51)),
 p (.load (some 4) (.r 0)),
 p (.alloc 4 (.agg [.fsl .nil 1 [],.int .i64 0,.int .i64 0,.int .i64 0])),
 p (.store (some 4) (.r 0) (.r 1))] [(1,.v 1),(5,.v 5),(7,.v 7),(9,.r 1),(49,.v 49),(50,.v 50),(51,.v 51)])
 (.reg false [p (.mov (.v 7)),
 p (.fad 1 (.v 9)),
 p (.load (none) (.r 0)),
 p (.bin .add (.r 2) (.r 0)),
 p (.mov (.r 0))] [(1,.v 1),(5,.v 5),(7,.r 0),(49,.v 49),(50,.v 50),(51,.v 51)])))
 (.reg false [p (.bin .add (.v 51) (.k (.int .i64 1))),
 p (.mov (.r 0))] [(1,.v 1),(5,.v 5),(7,.v 7),(49,.v 49),(50,.v 50),(51,.r 0)])))))))
 (.frz
 (.seq
 (.seq
 (.reg false [p (.mov (.v 7)),
 p (.mov (.k (.int .i64 0)))] [(1,.v 1),(5,.v 5),(60,.r 1),(61,.r 0)])
 (.block 2
 (.loop
 (.seq
 (.reg false [p (.bin .lss (.v 61) (.v 60))] [(1,.v 1),(5,.v 5),(60,.v 60),(61,.v 61),(62,.r 0)])
 (.seq
 (.cond (.v 62)
 .skip
 (.exit 2))
 (.seq
 (.block 3
 (.seq
 (.reg false [p (.mov (.v 61)),
 p (.mov (.r 0))] [(1,.v 1),(5,.v 5),(10,.r 0),(60,.v 60),(61,.v 61)])
 (.seq
 (.reg false [p (.load (some 4) (.v 5)),
 p (.fad 0 (.v 5)),
 p (.load (none) (.r 0)),
 p (.bin .add (.r 0) (.k (.int .i64 2097152))),
 p (.build [.int .i64 0,.str [],.str [],.int .i64 0,.int .i64 0,.str [],.str [],.fsl .nil 4 []] [(0,1,.k (.int .i64 8)),(4,1,.r 0)]),
 p (.call true (.k (.fn 14 [] [])) [.r 4,.r 0]),
 p (.mov (.r 0)),
 p (.ext (.r 0) 0),
 p (.ext (.r 1) 1),
 p (.store (some 4) (.v 5) (.r 1))] [(1,.v 1),(5,.v 5),(10,.v 10),(60,.v 60),(61,.v 61)])
 (.seq
 (.reg false [p (.load (some 4) (.v 5)),
 p (.build [.int .i64 0,.str [],.str [],.int .i64 0,.int .i64 0,.str [],.str [],.fsl .nil 4 []] [(0,1,.k (.int .i64 3))]),
 p (.call true (.k (.fn 14 [] [])) [.r 1,.r 0]),
 p (.mov (.r 0)),
 p (.ext (.r 0) 0),
 p (.ext (.r 1) 1),
 p (.alloc 4 (.agg [.int .i64 0,.int .i64 0,.fsl .nil 2 [],.fsl .nil 5 []])),
 p (.alloc 6 (.agg [.int .i64 0,.str [],.int .i64 0,.int .i64 0,.int .i64 0,.fsl .nil 5 []])),
 p (.store (some 4) (.r 1) (.r 3)),
 p (.store (some 6) (.r 1) (.r 3))] [(1,.v 1),(5,.v 5),(10,.v 10),(11,.r 3),(12,.r 2),(60,.v 60),(61,.v 61)])
 (.seq
 (.seq
 (.reg false [p (.fad 0 (.v 12)),
 p (.load (none) (.r 0)),
 p (.bin .neq (.r 0) (.k (.int .i64 0))),
 p (.mov (.r 0)),
 ⟨.fad 1 (.v 12),some (0,false),[]⟩,
 ⟨.load (none) (.r 0),some (1,false),[]⟩,
 ⟨.bin .neq (.r 0) (.k (.str [107])),some (2,false),[]⟩,
 p (.pick (.r 3) (.k (.bool true)) (.r 0))] [(1,.v 1),(5,.v 5),(10,.v 10),(11,.v 11),(12,.v 12),(60,.v 60),(61,.v 61),(86,.r 0)])
 (.cond (.v 86)
 (.seq
 (.reg false [p (.mov (.k (.bool false)))] [(4,.r 0)])
 .ret)
 .skip))
 (.seq
 (.reg false [p (.load (some 4) (.v 11)),
 p (.store (some 4) (.v 5) (.r 0))] [(1,.v 1),(5,.v 5),(10,.v 10),(12,.v 12),(60,.v 60),(61,.v 61)])
 (.seq
 (.reg false [p (.mov (.k (.int .i64 0)))] [(1,.v 1),(5,.v 5),(10,.v 10),(12,.v 12),(13,.r 0),(60,.v 60),(61,.v 61)])
 (.seq
 (.seq
 (.reg false [p (.mov (.v 10)),
 p (.mov (.v 1)),
 p (.len false (.r 0)),
 p (.bin .lss (.r 2) (.r 0))] [(1,.v 1),(5,.v 5),(10,.v 10),(12,.v 12),(13,.v 13),(60,.v 60),(61,.v 61),(91,.r 0)])
 (.cond (.v 91)
 (.reg false [p (.mov (.v 1)),
 p (.mov (.v 10)),
 p (.iad 1 (.r 1) (.r 0)),
 p (.load (none) (.r 0)),
 p (.mov (.r 0))] [(1,.v 1),(5,.v 5),(12,.v 12),(13,.r 0),(60,.v 60),(61,.v 61)])
 .skip))
 (.seq
 (.reg false [p (.fad 3 (.v 12)),
 p (.load (none) (.r 0)),
 p (.build [.int .i64 0,.str [],.str [],.int .i64 0,.int .i64 0,.str [],.str [],.fsl .nil 4 []] [(0,1,.k (.int .i64 5)),(3,1,.r 0),(5,1,.k (.str [114]))]),
 p (.alloc 8 (.agg [.int .i64 0,.str [],.str [],.int .i64 0,.int .i64 0,.str [],.str [],.fsl .nil 4 []])),
 p (.store (some 8) (.r 0) (.r 1))] [(1,.v 1),(5,.v 5),(12,.v 12),(13,.v 13),(14,.r 1),(60,.v 60),(61,.v 61)])
 (.seq
 (.seq
 (.reg false [p (.mov (.v 13)),
 p (.bin .rem (.r 0) (.k (.int .i64 3))),
 p (.bin .add (.r 0) (.k (.int .i64 3))),
 p (.bin .rem (.r 0) (.k (.int .i64 3)))] [(1,.v 1),(5,.v 5),(12,.v 12),(14,.v 14),(60,.v 60),(61,.v 61),(102,.r 0)])
 (.block 4
 (.seq
 (.reg false [p (.bin .eql (.v 102) (.k (.int .i64 1))),
 p (.mov (.r 0))] [(1,.v 1),(5,.v 5),(12,.v 12),(14,.v 14),(60,.v 60),(61,.v 61),(102,.v 102),(103,.r 0)])
 (.cond (.v 103)
 (.reg false [p (.fad 0 (.v 14)),
 p (.store (none) (.r 0) (.k (.int .i64 6)))] [(1,.v 1),(5,.v 5),(12,.v 12),(14,.v 14),(60,.v 60),(61,.v 61)])
 (.seq
 (.reg false [p (.bin .eql (.v 102) (.k (.int .i64 2))),
 p (.mov (.r 0))] [(1,.v 1),(5,.v 5),(12,.v 12),(14,.v 14),(60,.v 60),(61,.v 61),(106,.r 0)])
 (.cond (.v 106)
 (.reg false [p (.fad 0 (.v 5)),
 p (.load (none) (.r 0)),
 p (.bin .add (.r 0) (.k (.int .i64 2097152))),
 p (.build [.int .i64 0,.str [],.str [],.int .i64 0,.int .i64 0,.str [],.str [],.fsl .nil 4 []] [(0,1,.k (.int .i64 8)),(4,1,.r 0)]),
 p (.store (some 8) (.v 14) (.r 0))] [(1,.v 1),(5,.v 5),(12,.v 12),(14,.v 14),(60,.v 60),(61,.v 61)])
 .skip))))))
 (.seq
 (.seq
 (.reg false [p (.load (some 4) (.v 5)),
 p (.load (some 8) (.v 14)),
 p (.call true (.k (.fn 14 [] [])) [.r 1,.r 0]),
 p (.mov (.r 0)),
 p (.ext (.r 0) 0),
 p (.ext (.r 1) 1),
 p (.store (some 4) (.v 5) (.r 1)),
 p (.store (some 6) (.v 12) (.r 1))] [(1,.v 1),(5,.v 5),(12,.v 12),(60,.v 60),(61,.v 61)])
 (.seq
 (.reg false [p (.fad 0 (.v 12)),
 p (.load (none) (.r 0)),
 p (.bin .neq (.r 0) (.k (.int .i64 0)))] [(1,.v 1),(5,.v 5),(12,.v 12),(60,.v 60),(61,.v 61),(120,.r 0)])
 (.cond (.v 120)
 (.seq
 (.reg false [p (.mov (.k (.bool false)))] [(4,.r 0)])
 .ret)
 .skip)))
 (.seq
 (.reg false [p (.load (some 4) (.v 5)),
 p (.build [.int .i64 0,.str [],.str [],.int .i64 0,.int .i64 0,.str [],.str [],.fsl .nil 4 []] [(0,1,.k (.int .i64 9)),(1,1,.k (.str [107]))]),
 p (.call true (.k (.fn 14 [] [])) [.r 1,.r 0]),
 p (.mov (.r 0)),
 p (.ext (.r 0) 0),
 p (.ext (.r 1) 1),
 p (.store (some 6) (.v 12) (.r 0))] [(1,.v 1),(5,.v 5),(12,.v 12),(60,.v 60),(61,.v 61)])
 (.seq
 (.reg false [p (.fad 0 (.v 12)),
 p (.load (none) (.r 0)),
 p (.bin .neq (.r 0) (.k (.int .i64 0))),
 p (.mov (.r 0)),
 ⟨.fad 4 (.v 12),some (0,false),[]⟩,
 ⟨.load (none) (.r 0),some (1,false),[]⟩,
 ⟨.bin .neq (.r 0) (.k (.int .i64 0)),some (2,false),[]⟩,
 p (.pick (.r 3) (.k (.bool true)) (.r 0))] [(1,.v 1),(5,.v 5),(12,.v 12),(60,.v 60),(61,.v 61),(134,.r 0)])
 (.cond (.v 134)
 (.seq
 (.reg false [p (.call true (.k (.fn 16 [] [])) []),
 p (.mov (.r 0)),
 ⟨.fad 0 (.v 12),some (0,true),[]⟩,
 ⟨.load (none) (.r 0),some (1,true),[]⟩,
 ⟨.bin .eql (.r 0) (.k (.int .i64 0)),some (2,true),[]⟩,
 p (.pick (.r 3) (.r 0) (.k (.bool false))),
 p (.mov (.r 0)),
 ⟨.fad 4 (.v 12),some (0,true),[]⟩,
 ⟨.load (none) (.r 0),some (1,true),[]⟩,
 ⟨.bin .eql (.r 0) (.k (.int .i64 1)),some (2,true),[]⟩,
 ⟨.mov (.r 0),some (3,true),[]⟩,
 ⟨.fad 4 (.v 12),some (0,false),[]⟩,
 ⟨.load (none) (.r 0),some (1,false),[]⟩,
 ⟨.bin .eql (.r 0) (.k (.int .i64 2)),some (2,false),[]⟩,
 ⟨.pick (.r 3) (.k (.bool true)) (.r 0),some (7,true),[]⟩,
 p (.pick (.r 8) (.r 0) (.k (.bool false))),
 p (.mov (.r 0))] [(4,.r 0)])
 .ret)
 .skip))))))))))))))
 (.reg false [p (.bin .add (.v 61) (.k (.int .i64 1))),
 p (.mov (.r 0))] [(1,.v 1),(5,.v 5),(60,.v 60),(61,.r 0)])))))))
 (.frz
 (.seq
 (.reg false [p (.mov (.k (.bool false)))] [(4,.r 0)])
 .ret)))))))))
def r8:List RV:=[.t 4]
theorem en8:EnP Tryz.prog 8 152 c8 r8:=mkEnP (by kernel_rfl) Tryz.func8 (by kernel_rfl) ⟨_,rfl,by kernel_rfl,by kernel_rfl⟩
section
theorem getC_wr (w:Wd):getC none 3 (wdV w)=some (.fsl .loose 5 (mv rnV w.runs)):=rfl
theorem getC_task (t:Task):getC (some 4) 0 (taskV t)=some (taskV t):=rfl
theorem getC_tries (t:Task):getC none 1 (taskV t)=some (.int .i64 t.tries):=rfl
theorem setC_t0 (t:Task):setC (some 4) 0 (V.agg [.fsl .nil 1 [],.int .i64 0,.int .i64 0,.int .i64 0]) (taskV t)=some (taskV t):=rfl
theorem tries_bd {l:List Task} (hn:∀ t∈l,1≤t.tries∧t.tries≤8):∀ k,k≤l.length→0≤triesS (l.take k)∧triesS (l.take k)≤8*k
  | 0,_ => by simp [triesS]
  | k+1,h => by
    have ih:=tries_bd hn k (by omega)
    rw [tries_take (show k < l.length by omega)]
    have:=hn _ (List.getElem_mem (show k < l.length by omega))
    omega
theorem do_cx {w:Wd} (hm:WdM w) {k tok t:Int} {x:Str} {z:Wd×Ans} (hz:doS w (cX k tok t x)=z):PCall Tryz.prog 14 [wdV w,V.agg [.int .i64 k,.str [],.str [],.int .i64 tok,.int .i64 t,.str x,.str [],.fsl .nil 4 []]] (waV z):=by
  have:=world_do w (cX k tok t x) hm.ok (by simp [okDagL,cX])
  rw [hz] at this
  exact this.of_eq (by simp [loL,lo,wdV_lo,cmdV,cX,tasksV,mv_nil])
open Classical in
set_option maxHeartbeats 2000000 in
theorem law_ends (d:Dag) (ns:List Int) (hd:okDagL d) (hns:ns.length≤4611686018427387904):PCall Tryz.prog 8 [dagV d,.fsl .loose 1 (vI ns)] (.bool true):=by
  refine en8 (by simp) (by simp [closedL,dagV_closed,V.closed,vI_closed]) ?_
  have hfo:PCall Tryz.prog 23 [.fsl .full 8 [V.agg [.int .i64 1,.str [],.str [],.int .i64 0,.int .i64 0,.str [],.str d.name,tasksV d.tasks],V.agg [.int .i64 2,.str [107],.str d.name,.int .i64 0,.int .i64 0,.str [],.str [],.fsl .nil 4 []]]] (.tup [wdV (foldS zW [c1S d,c2S d]).1,anssV (foldS zW [c1S d,c2S d]).2]) :=
    (world_fold [c1S d,c2S d] (by simp) (by simp [c1S,c2S,hd,okDagL]; exact hd)).of_eq (by simp only [loL,lo,cmdsV,mv_cons,mv_nil,cmdV,c1S,c2S,kk,tasksV_lo]; simp [tasksV,mv_nil])
  simp (maxSteps:=1000000) (disch:=omega) only [rg,gD,simprocAttr,c8,dagV]
  refine ⟨rfl,_,hfo, ?_⟩
  by_cases c1:dagRightS d=0
  case neg =>
    rw [begin_bad c1]
    simp (maxSteps:=1000000) (disch:=omega) only [rg,gD,simprocAttr,setC_z4,anssV,mv_cons,mv_nil,ansV,whyA,sttsV,eq_false c1]
    refine ⟨_,law_alive20, ?_⟩
    simp (maxSteps:=1000000) (disch:=omega) only [rg,gD,simprocAttr,wdV,zW,mv_nil,mv_len]
    (refine fin_x rfl ?_ ?_<;>simp [pack,lo,loL,V.closed,closedL,mv_closed])
  obtain ⟨w,e0,hJ⟩:=begin_ok c1 hd
  rw [e0]
  obtain ⟨ht0,ht1⟩:=tries_le c1
  have hn:=dag_nums c1
  have hrl:=hJ.runs
  have hrlen:w.runs.length=1:=by rw [hrl]; rfl
  have hl10:=(dag_okn c1).1
  have hbd:=tries_bd (fun t ht => ⟨(hn t ht).1,(hn t ht).2.1⟩) (l:=d.tasks)
  simp (maxSteps:=1000000) (disch:=omega) only [rg,gD,simprocAttr,setC_z4,anssV,mv_cons,mv_nil,ansV,whyA,sttsV,getC_wr,mv_len,hrlen,tasksV]
  refine x_it d.tasks.length (fun k σ H => 2≤H.n∧H.m 1=some (.arr 4 [wdV w])∧σ=[(1,.fsl .loose 1 (vI ns)),(5,.ptr 1 0 0),(7,.int .i64 (triesS (d.tasks.take k))),(49,.fsl .loose 4 (mv taskV d.tasks)),(50,.int .i64 (d.tasks.length:Int)),(51,.int .i64 (k:Int))]) ⟨Nat.le_refl 2,(by simp (disch:=omega) only [upd_eq,upd_ne,wo_0,wo_1,wo_2]),by simp [triesS]⟩ ?_
  rintro T k σ ⟨n,m⟩ hkk ⟨hnn,e1,rfl⟩ hN hX hR
  simp only at hnn e1
  by_cases hk:k < d.tasks.length
  · have hb:=hbd k (by omega)
    have ht:=hn _ (List.getElem_mem hk)
    have htk:=tries_take hk
    have w1:IntKind.wrap .i64 (triesS (d.tasks.take k)+d.tasks[k].tries)=triesS (d.tasks.take k)+d.tasks[k].tries:=wrap_i64 (by omega) (by omega)
    simp (maxSteps:=1000000) (disch:=omega) only [rg,gD,simprocAttr,show (k:Int) < d.tasks.length by omega,mv_get hk,getC_task,Int.toNat_natCast,setC_t0,getC_tries,w1]
    exact hN _ _ hk ⟨by simp only []; omega,(by simp (disch:=omega) only [upd_eq,upd_ne,wo_0,wo_1,wo_2,e1]),by rw [htk]; rfl⟩
  · obtain rfl:k=d.tasks.length:=by omega
    simp (maxSteps:=1000000) (disch:=omega) only [rg,gD,simprocAttr,Int.lt_irrefl]
    refine hX _ _ _ ?_
    simp (maxSteps:=1000000) (disch:=omega) only [rg,gD,simprocAttr]
    refine x_frz0 ?_
    rw [List.take_length]
    clear hN hX hR T
    simp (maxSteps:=1000000) (disch:=omega) only [rg,gD,simprocAttr]
    obtain ⟨N,hN0⟩:∃ N:Nat,triesS d.tasks=(N:Int):=⟨(triesS d.tasks).toNat,by omega⟩
    rw [hN0]
    refine x_it N (fun j σ H => 2≤H.n∧(∃ w r,Jw d j w r∧H.m 1=some (.arr 4 [wdV w]))∧σ=[(1,.fsl .loose 1 (vI ns)),(5,.ptr 1 0 0),(60,.int .i64 (N:Int)),(61,.int .i64 (j:Int))]) ⟨hnn,⟨w,_,hJ,e1⟩,rfl⟩ ?_
    clear e1 hJ hrl hrlen e0 hnn
    clear w m n
    rintro T j σ ⟨n,m⟩ hjj ⟨hnn,⟨w,r,hJ,e1⟩,rfl⟩ hN hX hR
    simp only at hnn e1
    have hat:=all_tried hJ
    have hj:j < N:=by omega
    obtain ⟨i,r1,a1,a2,a3,a4⟩:=wround_lease hJ (by omega)
    have hMT:MT=1099511627776:=rfl
    have hnw:=hJ.W.now
    have hnow:=hJ.now
    have w1:IntKind.wrap .i64 (w.now+2097152)=w.now+2097152:=wrap_i64 (by omega) (by omega)
    have p1:=do_cl hJ.M (k:=8) (key:=[]) (t:=w.now+2097152) rfl
    have hM1:WdM { w with now:=w.now+2097152 }:=a1 ▸ do_M w _ hJ.M (by simp [cX,okDagL])
    have hW1:WR { w with now:=w.now+2097152 }:=a1 ▸ do_keeps _ hJ.W
    have p2:=do_cl hM1 (k:=3) (key:=[]) (t:=0) a2
    have hM2:WdM { w with now:=w.now+2097152,token:=(j:Int)+1,runs:=[r1] }:=by have:=do_M _ (cX 3 0 0 []) hM1 (by simp [cX,okDagL]); rwa [a2] at this
    have hW2:WR { w with now:=w.now+2097152,token:=(j:Int)+1,runs:=[r1] }:=by have:=do_keeps (cX 3 0 0 []) hW1; rwa [a2] at this
    unfold waV at p1 p2
    rw [show (doS w ⟨8,[],[],0,w.now+2097152,[],⟨[],[]⟩⟩).1={ w with now:=w.now+2097152 } from a1] at p1
    have hans:=fun mm => wround_answer (w:={ w with now:=w.now+2097152,token:=(j:Int)+1,runs:=[r1] }) mm hW2 hM2 hJ.dags rfl a4 a3 rfl (by simp only; omega) (by omega)
    simp only at hans
    generalize hw2:({ w with now:=w.now+2097152,token:=(j:Int)+1,runs:=[r1] }:Wd)=w2 at p2 hM2 hW2 hans
    have hw2n:w2.now=w.now+2097152:=by rw [← hw2]
    generalize ({ w with now:=w.now+2097152 }:Wd)=wa at p1 p2
    have l1:(1:Nat)≠n:=by omega
    have l2:(1:Nat)≠n+1:=by omega
    have l3:(1:Nat)≠n+2:=by omega
    simp (maxSteps:=1000000) (disch:=omega) only [rg,gD,simprocAttr,show (j:Int) < N by omega,e1,getC_wd,getC_now,w1]
    refine ⟨_,p1, ?_⟩
    simp (maxSteps:=1000000) (disch:=omega) only [rg,gD,simprocAttr,setC_wd,e1,getC_wd]
    refine ⟨_,p2, ?_⟩
    simp (maxSteps:=1000000) (disch:=omega) only [rg,gD,simprocAttr,setC_z4,setC_z6,ansV,kk,sttsV,mv_nil,e1,setC_wd,getC_wd]
    by_cases cj:j < ns.length
    · have hv:((j:Int) < ((vI ns).length:Int)):=by rw [vI_len]; omega
      obtain ⟨x,hx⟩:∃ x,x=ns[j]:=⟨_,rfl⟩
      have hxg:(vI ns)[j]?=some (.int .i64 x):=by rw [hx]; exact vI_get cj
      simp (maxSteps:=1000000) (disch:=omega) only [rg,gD,simprocAttr,hv,hxg,Int.toNat_natCast]
      generalize (IntKind.wrap .i64 (x.tmod 3+3)).tmod 3=mm
      refine ⟨fun m1 => ?_,fun m1 => ⟨fun m2 => ?_,fun m2 => ?_⟩⟩
      · simp (maxSteps:=1000000) (disch:=omega) only [rg,gD,simprocAttr,getC_wd]
        obtain ⟨b,hb⟩:=hans mm
        have pA:=do_cx hM2 (k:=6) (tok:=(j:Int)+1) (t:=0) (x:=[114]) (z:=doS w2 (cA mm ((j:Int)+1) (w.now+2097152))) (by unfold cA; rw [if_pos m1])
        generalize doS w2 (cA mm ((j:Int)+1) (w.now+2097152))=z at hb pA
        have pS:=do_cl hb.M (k:=9) (key:=kk) (t:=0) hb.st
        have hbw:=hb.whyb
        have hbi:=hb.is
        unfold waV ansV at pA pS
        unfold kk at pS
        refine ⟨_,pA, ?_⟩
        simp (maxSteps:=1000000) (disch:=omega) only [rg,gD,simprocAttr,setC_wd,e1,getC_wd,eq_true hb.why]
        refine ⟨_,pS, ?_⟩
        by_cases b0:b.is=0
        · obtain ⟨r2,hJ2⟩:=hb.next b0
          simp (maxSteps:=1000000) (disch:=omega) only [rg,gD,simprocAttr,setC_wd,e1,getC_wd,eq_true hbw,eq_true b0]
          exact hN _ _ hj ⟨by simp only []; omega,⟨_,r2,hJ2,(by simp (disch:=omega) only [upd_eq,upd_ne,wo_0,wo_1,wo_2])⟩,rfl⟩
        · simp (maxSteps:=1000000) (disch:=omega) only [rg,gD,simprocAttr,setC_wd,e1,getC_wd,eq_true hbw,eq_false b0]
          refine ⟨_,law_alive20, ?_⟩
          by_cases b1:b.is=1
          · simp (maxSteps:=1000000) (disch:=omega) only [rg,gD,simprocAttr,eq_true hbw,eq_true b1]
            refine hR _ _ ?_
            (refine fin_x rfl ?_ ?_<;>simp [pack,lo,loL,V.closed,closedL,mv_closed])
          · have b2:b.is=2:=by omega
            simp (maxSteps:=1000000) (disch:=omega) only [rg,gD,simprocAttr,eq_true hbw,eq_false b1,eq_true b2]
            refine hR _ _ ?_
            (refine fin_x rfl ?_ ?_<;>simp [pack,lo,loL,V.closed,closedL,mv_closed])
      · have w2w:IntKind.wrap .i64 (w2.now+2097152)=w2.now+2097152:=wrap_i64 (by omega) (by omega)
        simp (maxSteps:=1000000) (disch:=omega) only [rg,gD,simprocAttr,getC_wd,getC_now,w2w]
        obtain ⟨b,hb⟩:=hans mm
        have pA:=do_cx hM2 (k:=8) (tok:=0) (t:=w2.now+2097152) (x:=[]) (z:=doS w2 (cA mm ((j:Int)+1) (w.now+2097152))) (by unfold cA; rw [if_neg m1,if_pos m2,hw2n])
        generalize doS w2 (cA mm ((j:Int)+1) (w.now+2097152))=z at hb pA
        have pS:=do_cl hb.M (k:=9) (key:=kk) (t:=0) hb.st
        have hbw:=hb.whyb
        have hbi:=hb.is
        unfold waV ansV at pA pS
        unfold kk at pS
        refine ⟨_,pA, ?_⟩
        simp (maxSteps:=1000000) (disch:=omega) only [rg,gD,simprocAttr,setC_wd,e1,getC_wd,eq_true hb.why]
        refine ⟨_,pS, ?_⟩
        by_cases b0:b.is=0
        · obtain ⟨r2,hJ2⟩:=hb.next b0
          simp (maxSteps:=1000000) (disch:=omega) only [rg,gD,simprocAttr,setC_wd,e1,getC_wd,eq_true hbw,eq_true b0]
          exact hN _ _ hj ⟨by simp only []; omega,⟨_,r2,hJ2,(by simp (disch:=omega) only [upd_eq,upd_ne,wo_0,wo_1,wo_2])⟩,rfl⟩
        · simp (maxSteps:=1000000) (disch:=omega) only [rg,gD,simprocAttr,setC_wd,e1,getC_wd,eq_true hbw,eq_false b0]
          refine ⟨_,law_alive20, ?_⟩
          by_cases b1:b.is=1
          · simp (maxSteps:=1000000) (disch:=omega) only [rg,gD,simprocAttr,eq_true hbw,eq_true b1]
            refine hR _ _ ?_
            (refine fin_x rfl ?_ ?_<;>simp [pack,lo,loL,V.closed,closedL,mv_closed])
          · have b2:b.is=2:=by omega
            simp (maxSteps:=1000000) (disch:=omega) only [rg,gD,simprocAttr,eq_true hbw,eq_false b1,eq_true b2]
            refine hR _ _ ?_
            (refine fin_x rfl ?_ ?_<;>simp [pack,lo,loL,V.closed,closedL,mv_closed])
      · simp (maxSteps:=1000000) (disch:=omega) only [rg,gD,simprocAttr,getC_wd]
        obtain ⟨b,hb⟩:=hans mm
        have pA:=do_cx hM2 (k:=5) (tok:=(j:Int)+1) (t:=0) (x:=[114]) (z:=doS w2 (cA mm ((j:Int)+1) (w.now+2097152))) (by unfold cA; rw [if_neg m1,if_neg m2])
        generalize doS w2 (cA mm ((j:Int)+1) (w.now+2097152))=z at hb pA
        have pS:=do_cl hb.M (k:=9) (key:=kk) (t:=0) hb.st
        have hbw:=hb.whyb
        have hbi:=hb.is
        unfold waV ansV at pA pS
        unfold kk at pS
        refine ⟨_,pA, ?_⟩
        simp (maxSteps:=1000000) (disch:=omega) only [rg,gD,simprocAttr,setC_wd,e1,getC_wd,eq_true hb.why]
        refine ⟨_,pS, ?_⟩
        by_cases b0:b.is=0
        · obtain ⟨r2,hJ2⟩:=hb.next b0
          simp (maxSteps:=1000000) (disch:=omega) only [rg,gD,simprocAttr,setC_wd,e1,getC_wd,eq_true hbw,eq_true b0]
          exact hN _ _ hj ⟨by simp only []; omega,⟨_,r2,hJ2,(by simp (disch:=omega) only [upd_eq,upd_ne,wo_0,wo_1,wo_2])⟩,rfl⟩
        · simp (maxSteps:=1000000) (disch:=omega) only [rg,gD,simprocAttr,setC_wd,e1,getC_wd,eq_true hbw,eq_false b0]
          refine ⟨_,law_alive20, ?_⟩
          by_cases b1:b.is=1
          · simp (maxSteps:=1000000) (disch:=omega) only [rg,gD,simprocAttr,eq_true hbw,eq_true b1]
            refine hR _ _ ?_
            (refine fin_x rfl ?_ ?_<;>simp [pack,lo,loL,V.closed,closedL,mv_closed])
          · have b2:b.is=2:=by omega
            simp (maxSteps:=1000000) (disch:=omega) only [rg,gD,simprocAttr,eq_true hbw,eq_false b1,eq_true b2]
            refine hR _ _ ?_
            (refine fin_x rfl ?_ ?_<;>simp [pack,lo,loL,V.closed,closedL,mv_closed])
    · have hv:¬ ((j:Int) < ((vI ns).length:Int)):=by rw [vI_len]; omega
      simp (maxSteps:=1000000) (disch:=omega) only [rg,gD,simprocAttr,hv]
      obtain ⟨b,hb⟩:=hans 0
      have pA:=do_cx hM2 (k:=5) (tok:=(j:Int)+1) (t:=0) (x:=[114]) (z:=doS w2 (cA 0 ((j:Int)+1) (w.now+2097152))) (by unfold cA; rw [if_neg (by omega),if_neg (by omega)])
      generalize doS w2 (cA 0 ((j:Int)+1) (w.now+2097152))=z at hb pA
      have pS:=do_cl hb.M (k:=9) (key:=kk) (t:=0) hb.st
      have hbw:=hb.whyb
      have hbi:=hb.is
      unfold waV ansV at pA pS
      unfold kk at pS
      refine ⟨_,pA, ?_⟩
      simp (maxSteps:=1000000) (disch:=omega) only [rg,gD,simprocAttr,setC_wd,e1,getC_wd,eq_true hb.why]
      refine ⟨_,pS, ?_⟩
      by_cases b0:b.is=0
      · obtain ⟨r2,hJ2⟩:=hb.next b0
        simp (maxSteps:=1000000) (disch:=omega) only [rg,gD,simprocAttr,setC_wd,e1,getC_wd,eq_true hbw,eq_true b0]
        exact hN _ _ hj ⟨by simp only []; omega,⟨_,r2,hJ2,(by simp (disch:=omega) only [upd_eq,upd_ne,wo_0,wo_1,wo_2])⟩,rfl⟩
      · simp (maxSteps:=1000000) (disch:=omega) only [rg,gD,simprocAttr,setC_wd,e1,getC_wd,eq_true hbw,eq_false b0]
        refine ⟨_,law_alive20, ?_⟩
        by_cases b1:b.is=1
        · simp (maxSteps:=1000000) (disch:=omega) only [rg,gD,simprocAttr,eq_true hbw,eq_true b1]
          refine hR _ _ ?_
          (refine fin_x rfl ?_ ?_<;>simp [pack,lo,loL,V.closed,closedL,mv_closed])
        · have b2:b.is=2:=by omega
          simp (maxSteps:=1000000) (disch:=omega) only [rg,gD,simprocAttr,eq_true hbw,eq_false b1,eq_true b2]
          refine hR _ _ ?_
          (refine fin_x rfl ?_ ?_<;>simp [pack,lo,loL,V.closed,closedL,mv_closed])
end
theorem dagA_of {vs:List V} (h:TyV yDag vs):∃ d:Dag,vs=[.str d.name,tasksV d.tasks]∧okDagL d:=by
  obtain ⟨d,ws,rfl,q,hw⟩:=fDag_of (r:=.nil) h
  obtain rfl:ws=[]:=hw
  exact ⟨d,rfl,dag_ok0 q⟩
theorem isA_of {vs:List V} (h:TyV yIs vs):∃ l:List Int,vs=[.fsl .loose 1 (vI l)]∧l.length≤4611686018427387904:=by
  obtain ⟨l,rfl,h1,_⟩:=yIs_of h
  have hr:=reach_le
  exact ⟨l,rfl,by omega⟩
theorem row_ends (d:Dag) (ns:List Int) (hd:okDagL d) (hn:ns.length≤4611686018427387904):PCall Tryz.prog 8 [.agg [.str d.name,tasksV d.tasks],.fsl .loose 1 (vI ns)] (.bool true) :=
  law_ends d ns hd hn
end Go.Proofs.YtkdeckmglbnfbaaGreat.Ev
