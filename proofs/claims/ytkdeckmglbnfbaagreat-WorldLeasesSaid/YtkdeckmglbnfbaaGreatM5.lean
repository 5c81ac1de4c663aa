/-
  Part 5 of what the proof of the statement WorldLeases leans on: the evaluator, the functions in compact form, and what they answer.
-/
import Derived.Test.YtkdeckmglbnfbaaGreatM4
import Derived.Test.YtkdeckmglbnfbaaGreatProg
import Derived.KernelRfl
set_option linter.unusedSimpArgs false
set_option linter.unusedVariables false
set_option maxRecDepth 10000
namespace Go.Proofs.YtkdeckmglbnfbaaGreat.Ev
open Go
theorem lease_R {r:Rn} {now token:Int} (h:RnR r) (hz:(leaseS now token r).2.2=0) :
    RnR (leaseS now token r).1∧∃ i,∃ hi:i < (settleS now r).states.length,∃ s:Stt,s.token=token∧(leaseS now token r).1=withS (settleS now r) i s:=by
  have hq:=settle_R (now:=now) h
  unfold leaseS leaseQ at hz ⊢
  generalize settleS now r=q at hq hz ⊢
  split at hz
  · cases hz
  split at hz
  · cases hz
  split at hz
  · cases hz
  rename_i h1 h2 h3
  rw [if_neg h1,if_neg h2,if_neg h3]
  split at hz
  case h_2 => cases hz
  rename_i i hi
  simp only [hi]
  obtain ⟨hg,hp,_⟩:=fndS_get hi
  have hlen:=hq.len
  have h3':q.is=0:=Classical.not_not.1 h3
  rw [leaseAt_get (by omega) hg]
  simp only [dueP,Bool.and_eq_true,decide_eq_true_eq] at hp
  have htr:=hq.trs hg
  obtain ⟨hst,htp⟩:=trs_stands htr
  have hst:=(standsS_iff _).1 hst
  have htries:=(dag_tries hq.dag) _ (List.getElem_mem (l:=q.dag.tasks) (n:=i) (by omega))
  have hu:=untilS_range [now,(q.dag.tasks[i]'(by omega)).lease]
  have hr:q.states[i].result=[]:=(hst.2.2.2.2.2).resolve_right (by omega)
  have hl:(tleaseS (q.dag.tasks[i]'(by omega)) q.states[i] now token).1=⟨2,q.states[i].tried+1,untilS [now,(q.dag.tasks[i]'(by omega)).lease],token,q.states[i].result⟩:=by
    unfold tleaseS; rw [if_neg h1,if_neg (by omega)]
  rw [hl]
  have hMT:MT=1099511627776:=rfl
  have hnt:∀ s∈q.states,s.token≠token:=fun s hs e => h2 (List.any_eq_true.2 ⟨s,hs,by simp [tokP,e]⟩)
  obtain ⟨p1,p2,p3⟩:=hq.parts
  have hdone:∀ s:Stt,s.is=2→doneL (q.states.set i s)=doneL q.states:=fun s e => doneL_set hg (by rw [e,hp.1]; rfl)
  refine ⟨?_,i,hg,_,rfl,rfl⟩
  have hm:(⟨2,q.states[i].tried+1,untilS [now,(q.dag.tasks[i]'(by omega)).lease],token,q.states[i].result⟩:Stt)∈q.states.set i ⟨2,q.states[i].tried+1,untilS [now,(q.dag.tasks[i]'(by omega)).lease],token,q.states[i].result⟩:=List.mem_set hg _
  have hmem:∀ s∈q.states.set i (⟨2,q.states[i].tried+1,untilS [now,(q.dag.tasks[i]'(by omega)).lease],token,q.states[i].result⟩:Stt),s∈q.states∨s.is=2:=fun s hs => (List.mem_or_eq_of_mem_set hs).imp (fun h => h) (fun e => by rw [e])
  refine ⟨hq.name,hq.dag,by simp [withS,hlen], ?_,(nbad_iff (by simp [withS,hlen])).2 ⟨⟨by simp [withS,hlen],fun j hj hj2 => ?_,fun j hj hpj k hk hkj => ?_⟩,fun j hj k0 k5 => ?_,fun j hj k0 => ?_⟩,fun e => ?_,fun _ => ?_⟩
  · simp only [withS]
    rw [h3']
    unfold kindS
    rw [if_neg,if_neg,if_neg]
    · intro z; have:=cntS_zero.1 z _ hm; simp at this
    · have:cntS [4] (q.states.set i (⟨2,q.states[i].tried+1,untilS [now,(q.dag.tasks[i]'(by omega)).lease],token,q.states[i].result⟩:Stt))=0:=cntS_zero.2 fun s hs => by
        rcases hmem s hs with hs | hs
        · have:=hq.no4 h3' s hs; simpa using this
        · simp [hs]
      omega
    · intro z; have:=cntS_all.1 z _ hm; simp at this
  · simp only [withS,List.getElem_set]
    split
    · rename_i e; subst e
      refine trightS_yes ((standsS_iff _).2 ⟨⟨by simp,by simp,by simp only; omega, ?_,hu.1,hu.2⟩,⟨by simp only; omega,by simp only; omega,by simp; omega,by simp [hr],.inl hr⟩⟩) ⟨?_,.inr (.inr (.inl ⟨rfl,by simp only; omega⟩))⟩
      · obtain ⟨t1,t2⟩:=htp; simp only; omega
      · obtain ⟨t1,t2⟩:=htp; simp only; omega
    · exact p1.trs j (by simpa [withS] using hj) hj2
  · simp only [withS,List.length_set] at hj hk
    simp only [withS,List.getElem_set] at hpj ⊢
    by_cases e1:i=j
    · rw [if_pos e1] at hpj ⊢
      rw [if_neg (by omega)]
      exact hnt _ (List.getElem_mem hk)
    · rw [if_neg e1] at hpj ⊢
      by_cases e2:i=k
      · rw [if_pos e2]
        exact fun e => hnt _ (List.getElem_mem hj) e.symm
      · rw [if_neg e2]
        exact p1.toks j hj hpj k hk hkj
  · simp only [withS,List.length_set] at hj
    simp only [withS] at k0 k5 ⊢
    rw [ready_L (hdone _ rfl)]
    simp only [List.getElem_set] at k0 k5
    by_cases e:i=j
    · subst e; exact p2 i hg (by omega) (by omega)
    · rw [if_neg e] at k0 k5; exact p2 j hj k0 k5
  · simp only [withS,List.length_set] at hj
    simp only [withS] at k0 ⊢
    rw [ready_L (hdone _ rfl)]
    simp only [List.getElem_set] at k0
    by_cases e:i=j
    · rw [if_pos e] at k0; cases k0
    · rw [if_neg e] at k0; exact p3 j hj k0
  · simp only [withS] at e; omega
  · refine cntS_zero.2 fun s hs => ?_
    rcases hmem s hs with hs | hs
    · have:=hq.no5 h3' s hs; simpa using this
    · simp [hs]
def AnsOk (f:Task→Stt→Stt×Int):Prop:=∀ t s,trightS t s=true→s.is=2→(f t s).2=0→trightS t (f t s).1=true∧(f t s).1.is≠0∧(f t s).1.is≠5∧((f t s).1.token=s.token∨(f t s).1.token=0)
theorem told_R {r:Rn} {now token:Int} {f:Task→Stt→Stt×Int} (hf:AnsOk f) (h:RnR r) (hz:(toldS now f token r).2=0):RnR (toldS now f token r).1∧∃ i,∃ hi:i < (settleS now r).states.length,∃ s:Stt,(s.token=(settleS now r).states[i].token∨s.token=0)∧(toldS now f token r).1=mendS (withS (settleS now r) i s):=by
  have hq:=settle_R (now:=now) h
  unfold toldS toldQ at hz ⊢
  generalize settleS now r=q at hq hz ⊢
  split at hz
  · cases hz
  rename_i i hi
  try simp only [hi]
  obtain ⟨hg,hp,_⟩:=fndS_get hi
  have hlen:=hq.len
  simp only [holdP,Bool.and_eq_true,decide_eq_true_eq] at hp
  have e1:q.dag.tasks[i]?=some (q.dag.tasks[i]'(by omega)):=List.getElem?_eq_getElem (by omega)
  have e2:q.states[i]?=some q.states[i]:=List.getElem?_eq_getElem hg
  simp only [e1,e2] at hz ⊢
  split at hz
  · rename_i hne; exact absurd hz hne
  · rename_i hne
    have hne':(f (q.dag.tasks[i]'(by omega)) q.states[i]).2=0:=Classical.not_not.1 hne
    rw [if_neg hne]
    obtain ⟨f1,f2,f3,f4⟩:=hf _ _ (hq.trs hg) hp.1 hne'
    exact ⟨mend_R (set_Pm hq hg hp.1 f1 f2 f3 f4),i,hg,_,f4,rfl⟩
theorem cancel_R {r:Rn} {now:Int} (h:RnR r) (hz:(cancelS now r).2=0):RnR (cancelS now r).1∧(cancelS now r).1.states=canL (settleS now r).states (settleS now r).states.length:=by
  have hq:=settle_R (now:=now) h
  unfold cancelS cancelQ at hz ⊢
  generalize settleS now r=q at hq hz ⊢
  split at hz
  · cases hz
  rename_i hne
  rw [if_neg hne]
  have h3':q.is=0:=Classical.not_not.1 hne
  refine ⟨?_,rfl⟩
  have hlen:=hq.len
  have hg:=canL_all' q.states
  have hl:=canL_len q.states q.states.length
  obtain ⟨p1,p2,p3⟩:=hq.parts
  have hcan:∀ s∈canL q.states q.states.length,s.is=3∨s.is=5:=fun s hs => by
    obtain ⟨j,hj,rfl⟩:=List.mem_iff_getElem.1 hs
    rw [hg j hj]
    have hj':j < q.states.length:=by rwa [hl] at hj
    have hm:=List.getElem_mem hj'
    have n4:=hq.no4 h3' _ hm
    have n5:=hq.no5 h3' _ hm
    have hst:=((standsS_iff _).1 (hq.stands _ hm)).1
    unfold tcancelS
    split
    · exact .inr rfl
    · rename_i c; left; omega
  have hdone:doneL (canL q.states q.states.length)=doneL q.states:=by
    unfold doneL
    apply List.ext_getElem
    · simp [hl]
    · intro j h1 h2
      simp only [List.getElem_map]
      rw [hg j (by simpa using h1),tcancel_done]
  -- a task that was open
  obtain ⟨s0,hs0,ho⟩:∃ s∈q.states,s.is=0∨s.is=1∨s.is=2:=by
    have hk:=hq.kind
    rw [h3'] at hk
    unfold kindS at hk
    split at hk
    · cases hk
    split at hk
    · cases hk
    split at hk
    · cases hk
    · rename_i c
      refine Classical.byContradiction fun hn => c (cntS_zero.2 fun s hs => ?_)
      have:¬ (s.is=0∨s.is=1∨s.is=2):=fun e => hn ⟨s,hs,e⟩
      simpa using this
  obtain ⟨j0,hj0,rfl⟩:=List.mem_iff_getElem.1 hs0
  have h5:(canL q.states q.states.length)[j0]'(by rw [hl]; exact hj0)∈canL q.states q.states.length:=List.getElem_mem _
  have h5':((canL q.states q.states.length)[j0]'(by rw [hl]; exact hj0)).is=5:=by
    rw [hg]; unfold tcancelS; rw [if_pos ho]
  have ht:∀ s:Stt,(tcancelS s).token=s.token∨(tcancelS s).token=0:=fun s => by unfold tcancelS; split<;>simp
  refine ⟨hq.name,hq.dag,hl.trans hlen, ?_,(nbad_iff (hl.trans hlen)).2 ⟨⟨hl.trans hlen,fun j hj hj2 => ?_,fun j hj hp i hi hij => ?_⟩,fun j hj k0 k5 => ?_,fun j hj k0 => ?_⟩,fun e => (by cases e),fun e => (by cases e)⟩
  · show (3:Int)=kindS _
    unfold kindS
    rw [if_neg,if_neg,if_pos]
    · exact cntS_zero.2 fun s hs => by have:=hcan s hs; simp; omega
    · have h4:cntS [4] (canL q.states q.states.length)=0:=cntS_zero.2 fun s hs => by have:=hcan s hs; simp; omega
      show ¬ 0 < cntS [4] (canL q.states q.states.length)
      omega
    · intro z; have:=cntS_all.1 z _ h5; simp [h5'] at this
  · rw [hg j hj]; exact tright_cancel (p1.trs j (by rwa [hl] at hj) hj2)
  · rw [hg j hj] at hp ⊢
    rw [hg i hi]
    have hpe:=(ht (q.states[j]'(by rwa [hl] at hj))).resolve_right (by omega)
    rw [hpe] at hp ⊢
    rcases ht (q.states[i]'(by rwa [hl] at hi)) with e | e
    · rw [e]; exact p1.toks j (by rwa [hl] at hj) hp i (by rwa [hl] at hi) hij
    · rw [e]; omega
  · rw [ready_L hdone]
    have hj':j < q.states.length:=by rwa [hl] at hj
    rw [hg j hj] at k0 k5
    refine p2 j hj' ?_ ?_
    · intro e; unfold tcancelS at k5; rw [if_pos (.inl e)] at k5; exact k5 rfl
    · intro e; unfold tcancelS at k5; rw [if_neg (by omega)] at k5; exact k5 e
  · have:=hcan _ (List.getElem_mem hj); omega
theorem new_R {key:Str} {d:Dag} (hk:1≤key.length∧key.length≤16) (hd:dagRightS d=0):RnR (newS key d):=by
  have htr:=dag_tries hd
  refine mend_R ⟨hk,hd,rfl,⟨startS_len key d,fun j hj hj2 => ?_,fun j hj hp => ?_⟩,fun s hs => ?_,fun j hj k0 => ?_⟩
  · simp only [startS,List.getElem_replicate]
    have:=htr _ (List.getElem_mem hj2)
    refine trightS_yes ((standsS_iff _).2 (by simp [zS])) ⟨by simp [zS]; exact Int.le_trans (by omega) this.1,.inl ⟨rfl,rfl,rfl⟩⟩
  · simp [startS,zS] at hp
  · simp only [startS,List.mem_replicate] at hs; rw [hs.2]; simp [zS]
  · simp [startS,zS] at k0
inductive TkR:List Int→List Int→Prop where
  | nil:TkR [] []
  | cons {a b:Int} {l l':List Int}:(b=a∨b=0)→TkR l l'→TkR (a::l) (b::l')
theorem TkR.refl:∀ l,TkR l l
  | [] => .nil
  | a::l => .cons (.inl rfl) (.refl l)
theorem TkR.trans {a b:List Int} (h:TkR a b):∀ {c},TkR b c→TkR a c:=by
  induction h with
  | nil => intro c k; exact k
  | cons e _ ih =>
    intro c k
    cases k with
    | cons e2 k => exact .cons (by omega) (ih k)
theorem TkR.app {a b c d:List Int} (h:TkR a b) (k:TkR c d):TkR (a++c) (b++d):=by
  induction h with
  | nil => exact k
  | cons e _ ih => exact .cons e ih
theorem TkR.of_get:∀ {l l':List Int},l'.length=l.length→(∀ i (h:i < l.length) (h':i < l'.length),l'[i]=l[i]∨l'[i]=0)→TkR l l'
  | [],[],_,_ => .nil
  | [],_::_,h,_ => by simp at h
  | _::_,[],h,_ => by simp at h
  | a::l,b::l',h,k => .cons (k 0 (by simp) (by simp)) (TkR.of_get (by simpa using h) fun i h1 h2 => by
    have:=k (i+1) (by simpa using h1) (by simpa using h2)
    simpa only [List.getElem_cons_succ] using this)
theorem TkR.mem {l l':List Int} (h:TkR l l'):∀ t∈l',t∈l∨t=0:=by
  induction h with
  | nil => intro t ht; simp at ht
  | cons e _ ih =>
    intro t ht
    rcases List.mem_cons.1 ht with rfl | ht
    · rcases e with rfl | e
      · exact .inl (by simp)
      · exact .inr e
    · exact (ih t ht).imp (fun h => by simp [h]) (fun h => h)
theorem TkR.tk {tok:Int} {l l':List Int} (h:TkR l l') (h0:0≤tok) (k:Tk tok l):Tk tok l':=by
  refine ⟨fun t ht => ?_, ?_⟩
  · rcases h.mem t ht with h | h
    · exact k.1 t h
    · omega
  · have k2:=k.2
    clear k
    induction h with
    | nil => exact k2
    | @cons a b l l' e hh ih =>
      simp only [List.filter_cons] at k2 ⊢
      by_cases cb:0 < b
      · have e':b=a:=e.resolve_right (by omega)
        subst e'
        simp only [cb,decide_true,if_true,List.nodup_cons] at k2 ⊢
        refine ⟨fun hm => k2.1 ?_,ih k2.2⟩
        rw [List.mem_filter] at hm ⊢
        exact ⟨(hh.mem b hm.1).resolve_right (by omega),hm.2⟩
      · simp only [cb,decide_false,Bool.false_eq_true,if_false]
        refine ih ?_
        split at k2
        · exact (List.nodup_cons.1 k2).2
        · exact k2
theorem Tk.mono {t t':Int} {l:List Int} (h:Tk t l) (hl:t≤t'):Tk t' l:=⟨fun x hx => Int.le_trans (h.1 x hx) hl,h.2⟩
theorem Tk.new {tok:Int} {P Q:List Int} {x:Int} (h:Tk tok (P++x::Q)) (h0:0≤tok):Tk (tok+1) (P++(tok+1)::Q):=by
  have hx:∀ t∈P++Q,t≤tok:=fun t ht => h.1 t (by rcases List.mem_append.1 ht with h | h<;>simp [h])
  have hn:((P++Q).filter fun t => decide (0 < t)).Nodup:=by
    have:=h.2
    rw [List.filter_append] at this ⊢
    simp only [List.filter_cons] at this
    split at this
    · rw [List.nodup_append] at this ⊢
      exact ⟨this.1,(List.nodup_cons.1 this.2.1).2,fun a ha b hb => this.2.2 a ha b (by simp [hb])⟩
    · exact this
  refine ⟨fun t ht => ?_, ?_⟩
  · rcases List.mem_append.1 ht with h | h
    · have:=hx t (by simp [h]); omega
    · rcases List.mem_cons.1 h with rfl | h
      · exact Int.le_refl _
      · have:=hx t (by simp [h]); omega
  · rw [List.filter_append] at hn ⊢
    simp only [List.filter_cons,show 0 < tok+1 by omega,decide_true,if_true]
    rw [List.nodup_append] at hn ⊢
    refine ⟨hn.1,List.nodup_cons.2 ⟨fun hm => ?_,hn.2.1⟩,fun a ha b hb => ?_⟩
    · have:=hx _ (List.mem_append_right _ (List.mem_filter.1 hm).1); omega
    · rcases List.mem_cons.1 hb with rfl | hb
      · have:=hx a (List.mem_append_left _ (List.mem_filter.1 ha).1); omega
      · exact hn.2.2 a ha b hb
theorem Tk.zeros {tok:Int} {A B Z:List Int} (h:Tk tok (A++B)) (h0:0≤tok) (hz:∀ t∈Z,t=0):Tk tok (A++(Z++B)):=by
  refine ⟨fun t ht => ?_, ?_⟩
  · rcases List.mem_append.1 ht with k | k
    · exact h.1 t (by simp [k])
    · rcases List.mem_append.1 k with k | k
      · rw [hz t k]; exact h0
      · exact h.1 t (by simp [k])
  · have e:Z.filter (fun t => decide (0 < t))=[]:=by
      rw [List.filter_eq_nil_iff]; intro t ht; rw [hz t ht]; simp
    have:=h.2
    rw [List.filter_append] at this ⊢
    rw [List.filter_append,e]; exact this
/-! The tokens of runs. -/
theorem toks_set {ss:List Stt} {i:Nat} {s:Stt} (hi:i < ss.length) (h:s.token=ss[i].token∨s.token=0):TkR (tokS ss) (tokS (ss.set i s)):=by
  refine TkR.of_get (by simp [tokS]) fun j h1 h2 => ?_
  simp only [tokS,List.getElem_map,List.getElem_set]
  split
  · rename_i e; subst e; exact h
  · exact .inl rfl
theorem toks_can (ss:List Stt):TkR (tokS ss) (tokS (canL ss ss.length)):=by
  refine TkR.of_get (by simp [tokS,canL_len]) fun j h1 h2 => ?_
  simp only [tokS,List.getElem_map]
  rw [canL_all']
  unfold tcancelS; split<;>simp
theorem toks_mendL (ts:List Task) (ss:List Stt):TkR (tokS ss) (tokS (mendL ts ss ss.length)):=by
  refine TkR.of_get (by simp [tokS,mendL_len]) fun j h1 h2 => ?_
  simp only [tokS,List.getElem_map]
  rw [mendL_all']
  split
  · unfold treadyS; split<;>simp
  · exact .inl rfl
theorem toks_mend (r:Rn):TkR (tokS r.states) (tokS (mendS r).states):=by
  unfold mendS; split
  · exact toks_can _
  · exact toks_mendL _ _
theorem toks_one {now:Int} {r:Rn} (h:RnR r):TkR (tokS r.states) (tokS (oneS now r).states):=by
  by_cases c:overS (untilS [now]) r.states r.states.length < 0
  · rw [oneS_none c]; exact .refl _
  · obtain ⟨hi,e1,e2⟩:=overS_spec (untilS [now]) r.states r.states.length (Nat.le_refl _) (by omega)
    have ho:overS (untilS [now]) r.states r.states.length=((overS (untilS [now]) r.states r.states.length).toNat:Nat):=by omega
    generalize (overS (untilS [now]) r.states r.states.length).toNat=i at hi e1 e2 ho
    have hlen:=h.len
    rw [oneS_some ho (by omega) hi]
    have:texpireS r.dag.tasks[i] r.states[i] now=(tfailS r.dag.tasks[i] r.states[i] r.states[i].due).1:=by
      unfold texpireS; rw [if_neg (by omega)]
    obtain ⟨f1,f2,f3,f4⟩:=fail_R (now:=r.states[i].due) (h.trs hi) e1
    rw [this]
    exact (toks_set hi (.inr f4)).trans (toks_mend (withS r i (tfailS r.dag.tasks[i] r.states[i] r.states[i].due).1))
theorem toks_settle {now:Int} {r:Rn} (h:RnR r):TkR (tokS r.states) (tokS (settleS now r).states):=by
  unfold settleS
  generalize r.states.length=k
  have:∀ k,RnR (rndS now r k)∧TkR (tokS r.states) (tokS (rndS now r k).states):=fun k => by
    induction k with
    | zero => exact ⟨h,.refl _⟩
    | succ k ih => exact ⟨one_R ih.1,ih.2.trans (toks_one ih.1)⟩
  exact (this k).2
theorem toks_told {r:Rn} {now token:Int} {f:Task→Stt→Stt×Int} (hf:AnsOk f) (h:RnR r) (hz:(toldS now f token r).2=0):TkR (tokS r.states) (tokS (toldS now f token r).1.states):=by
  obtain ⟨_,i,hi,s,hs,e⟩:=told_R hf h hz
  rw [e]
  exact (toks_settle h).trans ((toks_set hi hs).trans (toks_mend (withS (settleS now r) i s)))
theorem toks_cancel {r:Rn} {now:Int} (h:RnR r) (hz:(cancelS now r).2=0):TkR (tokS r.states) (tokS (cancelS now r).1.states):=by
  rw [(cancel_R h hz).2]
  exact (toks_settle h).trans (toks_can _)
theorem toks_new (key:Str) (d:Dag):∀ t∈tokS (newS key d).states,t=0:=by
  have:∀ s∈(newS key d).states,s.token=0:=mendS_all (p:=fun s => s.token=0) (fun s hs => by unfold tcancelS; split<;>simp [hs]) (fun s hs => by unfold treadyS; split<;>simp [hs]) fun s hs => by
    simp only [startS,List.mem_replicate] at hs; rw [hs.2]; rfl
  intro t ht
  simp only [tokS,List.mem_map] at ht
  obtain ⟨s,hs,rfl⟩:=ht
  exact this s hs
theorem toksR_ap (a b:List Rn):toksR (a++b)=toksR a++toksR b:=by simp [toksR]
theorem toksR_cons (r:Rn) (l:List Rn):toksR (r::l)=tokS r.states++toksR l:=by simp [toksR]
theorem toksR_at {l:List Rn} {i:Nat} (hi:i < l.length):toksR l=toksR (l.take i)++(tokS l[i].states++toksR (l.drop (i+1))):=by
  have:=List.take_append_drop i l
  rw [List.drop_eq_getElem_cons hi] at this
  conv => lhs; rw [← this]
  rw [toksR_ap,toksR_cons]
theorem toksR_set {l:List Rn} {i:Nat} {r:Rn} (hi:i < l.length):toksR (l.set i r)=toksR (l.take i)++(tokS r.states++toksR (l.drop (i+1))):=by
  rw [List.set_eq_take_append_cons_drop,if_pos hi,toksR_ap,toksR_cons]
theorem WR.set {w:Wd} (h:WR w) {i:Nat} (hi:i < w.runs.length) {r:Rn} {tok:Int} (hk:r.key=w.runs[i].key) (hd:r.dag=w.runs[i].dag) (hr:RnR r) (ht:0≤tok∧tok≤MT) (htk:Tk tok (toksR (w.runs.set i r))) :
    WR { w with runs:=w.runs.set i r,token:=tok }:=by
  have hm:=List.getElem_mem hi
  refine ⟨h.now,ht,h.ndags,by simp only [List.length_set]; exact h.nruns,h.rdags, ?_,h.dags,fun x hx => ?_,htk⟩
  · have:runsN (w.runs.set i r)=runsN w.runs:=by
      unfold runsN
      rw [List.map_set,hk]
      have e:(w.runs.map (·.key))[i]'(by simpa using hi)=w.runs[i].key:=by simp
      rw [← e]; exact List.set_getElem_self _
    simp only [this]; exact h.rruns
  · rcases List.mem_or_eq_of_mem_set hx with hx | rfl
    · exact h.runs x hx
    · exact ⟨hd ▸ (h.runs _ hm).1,hr⟩
theorem rise_put {l:List Str} {t:Str} (hr:Rise l) (hn:t∉l):Rise (l.take (lbS t l)++t::l.drop (lbS t l)):=by
  have hlb:=lb_rise hr t
  have hpw:l.Pairwise fun a b => ltS a b=true:=List.pairwise_iff_getElem.2 fun i j hi hj hij => rise_lt hr j i hj hij
  have hP:(l.take (lbS t l)++t::l.drop (lbS t l)).Pairwise fun a b => ltS a b=true:=by
    rw [List.pairwise_append]
    refine ⟨hpw.sublist (List.take_sublist _ _),List.pairwise_cons.2 ⟨fun a ha => ?_,hpw.sublist (List.drop_sublist _ _)⟩,fun a ha b hb => ?_⟩
    · obtain ⟨j,hj,rfl⟩:=List.mem_drop_iff_getElem.1 ha
      have:=hlb.hi (lbS t l+j) (by omega) (by omega)
      rcases lt_not this with e | e
      · exact absurd (e ▸ List.getElem_mem _) hn
      · exact e
    · obtain ⟨j,hj,rfl⟩:=List.mem_take_iff_getElem.1 ha
      rcases List.mem_cons.1 hb with rfl | hb
      · exact hlb.lo j (by omega) (by omega)
      · obtain ⟨k,hk,rfl⟩:=List.mem_drop_iff_getElem.1 hb
        exact rise_lt hr _ j (by omega) (by omega)
  intro i hi
  exact List.pairwise_iff_getElem.1 hP i (i+1) (by omega) hi (by omega)
theorem keeps (w:Wd) (c:Cmd) (h:WR w):WR (kindW w c).1:=by
  have hMT:MT=1099511627776:=rfl
  have htold:∀ f:Task→Stt→Stt×Int,AnsOk f→WR (toldW w f c.token).1:=fun f hf => by
    unfold toldW
    split
    · exact h
    · rename_i i hi
      obtain ⟨hg,_,_⟩:=fndS_get hi
      rw [getD_get hg]
      split
      · exact h
      · rename_i hz
        have hz':(toldS w.now f c.token w.runs[i]).2=0:=Classical.not_not.1 hz
        have hm:=List.getElem_mem hg
        have hr:=(h.runs _ hm).2
        have hs:Shp w.runs[i] (toldS w.now f c.token w.runs[i]).1:=by
          obtain ⟨_,j,hj,s,_,e⟩:=told_R hf hr hz'
          rw [e]; exact (settleS_shp _ _).trans ((withS_shp _ _ _).trans (mendS_shp _))
        refine h.set hg hs.key hs.dag (told_R hf hr hz').1 h.token ?_
        rw [toksR_set hg]
        refine TkR.tk ((TkR.refl _).app ((toks_told hf hr hz').app (.refl _))) h.token.1 ?_
        rw [← toksR_at hg]; exact h.toks
  unfold kindW
  by_cases k1:c.kind=1
  · rw [if_pos k1]; unfold graphS; repeat' split
    all_goals first | exact h | skip
    rename_i h1 h2 h3
    have hd:dagRightS c.dag=0:=Classical.not_not.1 h1
    have hmem:∀ d∈w.dags,d∈putD w.dags c.dag:=fun d hd => by
      unfold putD
      rw [← List.take_append_drop (lbD c.dag.name w.dags) w.dags] at hd
      rcases List.mem_append.1 hd with k | k
      · exact List.mem_append_left _ k
      · exact List.mem_append_right _ (List.mem_cons_of_mem _ k)
    refine ⟨h.now,h.token, ?_,h.nruns, ?_,h.rruns,fun d hx => ?_,fun r hr => ⟨hmem _ (h.runs r hr).1,(h.runs r hr).2⟩,h.toks⟩
    · simp only [putD,List.length_append,List.length_take,List.length_cons,List.length_drop]; omega
    · have:=rise_put h.rdags h2
      simp only [putD,dagsN,List.map_append,List.map_cons,List.map_take,List.map_drop]
      exact this
    · rcases mem_put (e:=0) hx with hx | rfl
      · exact h.dags d hx
      · exact hd
  rw [if_neg k1]; by_cases k2:c.kind=2
  · rw [if_pos k2]; unfold beginS; repeat' split
    all_goals first | exact h | skip
    rename_i hk1 hin hk3 hk4
    have hin':c.name∈dagsN w.dags:=Classical.not_not.1 hin
    obtain ⟨hi,hnm⟩:=lbD_get h.rdags hin'
    rw [getD_get hi]
    have hm:=List.getElem_mem hi
    have hnk:=new_key c.key w.dags[lbD c.name w.dags]
    have hnew:=new_R (key:=c.key) (by omega) (h.dags _ hm)
    have hnd:(newS c.key w.dags[lbD c.name w.dags]).dag=w.dags[lbD c.name w.dags]:=(mendS_shp _).dag
    have htk:=toks_new c.key w.dags[lbD c.name w.dags]
    generalize newS c.key w.dags[lbD c.name w.dags]=nr at hnk hnew hnd htk
    have hput:putR w.runs nr=w.runs.take (lbR c.key w.runs)++nr::w.runs.drop (lbR c.key w.runs):=by
      unfold putR; rw [hnk,if_neg hk3,Nat.add_zero]
    refine ⟨h.now,h.token,h.ndags, ?_,h.rdags, ?_,h.dags,fun d hx => ?_, ?_⟩
    · simp only [hput,List.length_append,List.length_take,List.length_cons,List.length_drop]; omega
    · have:=rise_put h.rruns hk3
      simp only [hput,runsN,List.map_append,List.map_cons,List.map_take,List.map_drop,hnk]
      exact this
    · simp only [hput] at hx
      rcases mem_put (e:=0) hx with hx | rfl
      · exact h.runs d hx
      · exact ⟨hnd ▸ hm,hnew⟩
    · simp only [hput,toksR_ap,toksR_cons]
      refine Tk.zeros ?_ h.token.1 htk
      rw [← toksR_ap,List.take_append_drop]; exact h.toks
  rw [if_neg k2]; by_cases k3:c.kind=3
  · rw [if_pos k3]; unfold pollS; split
    · exact h
    rename_i htok
    split
    · exact h
    · rename_i i hi
      obtain ⟨hg,hp,_⟩:=fndS_get hi
      rw [getD_get hg]
      have hm:=List.getElem_mem hg
      have hr:=(h.runs _ hm).2
      have hz:(leaseS w.now (w.token+1) w.runs[i]).2.2=0:=by simpa [leaseP] using hp
      obtain ⟨hR,j,hj,s,hs,e⟩:=lease_R hr hz
      have hsh:Shp w.runs[i] (leaseS w.now (w.token+1) w.runs[i]).1:=by rw [e]; exact (settleS_shp _ _).trans (withS_shp _ _ _)
      have h0:=h.token
      refine h.set hg hsh.key hsh.dag hR ⟨by omega,by omega⟩ ?_
      rw [toksR_set hg,e]
      have h1:Tk w.token (toksR (w.runs.take i)++(tokS (settleS w.now w.runs[i]).states++toksR (w.runs.drop (i+1)))):=by
        refine TkR.tk ((TkR.refl _).app ((toks_settle hr).app (.refl _))) h.token.1 ?_
        rw [← toksR_at hg]; exact h.toks
      generalize settleS w.now w.runs[i]=q at hj h1
      have e1:tokS q.states=(tokS q.states).take j++(tokS q.states)[j]'(by simpa [tokS] using hj)::(tokS q.states).drop (j+1):=by
        rw [← List.drop_eq_getElem_cons,List.take_append_drop]
      have e2:tokS (withS q j s).states=(tokS q.states).take j++(w.token+1)::(tokS q.states).drop (j+1):=by
        simp only [withS,tokS,List.map_set,hs]
        rw [List.set_eq_take_append_cons_drop,if_pos (by simpa using hj)]
      rw [e1] at h1
      rw [e2]
      have:=Tk.new (P:=toksR (w.runs.take i)++(tokS q.states).take j) (Q:=(tokS q.states).drop (j+1)++toksR (w.runs.drop (i+1))) (x:=(tokS q.states)[j]'(by simpa [tokS] using hj)) (tok:=w.token) (by simpa only [List.append_assoc,List.cons_append] using h1) h.token.1
      simpa only [List.append_assoc,List.cons_append] using this
  rw [if_neg k3]; by_cases k4:c.kind=4
  · rw [if_pos k4]; exact htold _ fun t s h1 h2 _ => by obtain ⟨a,b,c,d⟩:=beat_R (now:=w.now) h1 h2; exact ⟨a,b,c,.inl d⟩
  rw [if_neg k4]; by_cases k5:c.kind=5
  · rw [if_pos k5]; exact htold _ fun t s h1 h2 h3 => by obtain ⟨a,b,c,d⟩:=done_R h1 h2 h3; exact ⟨a,b,c,.inr d⟩
  rw [if_neg k5]; by_cases k6:c.kind=6
  · rw [if_pos k6]; exact htold _ fun t s h1 h2 _ => by obtain ⟨a,b,c,d⟩:=fail_R (now:=w.now) h1 h2; exact ⟨a,b,c,.inr d⟩
  rw [if_neg k6]; by_cases k7:c.kind=7
  · rw [if_pos k7]; unfold cancelW; split
    · exact h
    split
    · exact h
    · rename_i hc hz
      obtain ⟨hi,hnm⟩:=lbR_get h.rruns (Classical.not_not.1 hc)
      rw [getD_get hi] at hz ⊢
      have hm:=List.getElem_mem hi
      have hr:=(h.runs _ hm).2
      have hz':(cancelS w.now w.runs[lbR c.key w.runs]).2=0:=Classical.not_not.1 hz
      have hs:Shp w.runs[lbR c.key w.runs] (cancelS w.now w.runs[lbR c.key w.runs]).1:=by
        unfold cancelS cancelQ at hz' ⊢
        split at hz'
        · cases hz'
        · rename_i hq; rw [if_neg hq]
          have hs:=settleS_shp w.now w.runs[lbR c.key w.runs]
          exact ⟨hs.key,hs.dag,(canL_len _ _).trans hs.len⟩
      refine h.set hi hs.key hs.dag (cancel_R hr hz').1 h.token ?_
      rw [toksR_set hi]
      refine TkR.tk ((TkR.refl _).app ((toks_cancel hr hz').app (.refl _))) h.token.1 ?_
      rw [← toksR_at hi]; exact h.toks
  rw [if_neg k7]; by_cases k8:c.kind=8
  · rw [if_pos k8]; unfold tickW; split
    · exact h
    · rename_i c
      exact ⟨by have:=h.now; simp only; omega,h.token,h.ndags,h.nruns,h.rdags,h.rruns,h.dags,h.runs,h.toks⟩
  rw [if_neg k8]; by_cases k9:c.kind=9
  · rw [if_pos k9]; unfold stateW; split<;>exact h
  rw [if_neg k9]; split<;>exact h
theorem settle_none {now:Int} {r:Rn} (h:∀ s∈r.states,s.is≠2):settleS now r=r:=by
  have hov:overS (untilS [now]) r.states r.states.length < 0:=by
    rcases Int.lt_or_le (overS (untilS [now]) r.states r.states.length) 0 with c | c
    · exact c
    · obtain ⟨hi,e1,_⟩:=overS_spec (untilS [now]) r.states r.states.length (Nat.le_refl _) c
      exact absurd e1 (h _ (List.getElem_mem hi))
  exact (round_end (k:=0) hov (Nat.zero_le _)).symm
theorem mend_not2 {r:Rn} (h:∀ s∈r.states,s.is≠2):∀ s∈(mendS r).states,s.is≠2 :=
  mendS_all (p:=fun s => s.is≠2) (fun s hs => by unfold tcancelS; split<;>simp_all) (fun s hs => by unfold treadyS; split<;>simp_all) h
def triedS (l:List Stt):Int:=(l.map (·.tried)).sum
theorem sumT_mend (r:Rn):triedS (mendS r).states=triedS r.states:=by
  have h:(mendS r).states.map (·.tried)=r.states.map (·.tried):=by
    unfold mendS; split
    · apply List.ext_getElem
      · simp [canL_len]
      · intro j h1 h2; simp only [List.getElem_map]; rw [canL_all',tcancel_tried]
    · apply List.ext_getElem
      · simp [mendL_len]
      · intro j h1 h2; simp only [List.getElem_map]; rw [mendL_all']; split
        · rw [tready_tried]
        · rfl
  unfold triedS; rw [h]
theorem sumT_set {l:List Stt} {i:Nat} {s:Stt} (hi:i < l.length):triedS (l.set i s)=triedS l - l[i].tried+s.tried:=by
  unfold triedS
  induction l generalizing i with
  | nil => simp at hi
  | cons a l ih =>
    cases i with
    | zero => simp; omega
    | succ i =>
      have:=ih (i:=i) (by simpa using hi)
      simp only [List.set_cons_succ,List.map_cons,List.sum_cons,List.getElem_cons_succ] at this ⊢
      omega
structure Kp (s s':Stt):Prop where
  tried:s'.tried=s.tried
  done:s.is=3→s'.is=3∧s'.result=s.result
theorem Kp.refl (s:Stt):Kp s s:=⟨rfl,fun h => ⟨h,rfl⟩⟩
theorem Kp.trans {a b c:Stt} (h:Kp a b) (k:Kp b c):Kp a c:=⟨k.tried.trans h.tried,fun e => let ⟨e1,e2⟩:=h.done e; let ⟨e3,e4⟩:=k.done e1; ⟨e3,e4.trans e2⟩⟩
theorem Kp.cancel (s:Stt):Kp s (tcancelS s):=by
  unfold tcancelS; split
  · exact ⟨rfl,fun e => by omega⟩
  · exact .refl s
theorem Kp.ready (s:Stt):Kp s (treadyS s):=by
  unfold treadyS; split
  · exact ⟨rfl,fun e => by omega⟩
  · exact .refl s
theorem Kp.fail {t:Task} {s:Stt} {now:Int} (h:s.is=2):Kp s (tfailS t s now).1:=by
  unfold tfailS; rw [if_neg (by omega)]; split<;>exact ⟨rfl,fun e => by omega⟩
theorem Kp.expire (t:Task) (s:Stt) (now:Int):Kp s (texpireS t s now):=by
  unfold texpireS; split
  · exact .refl s
  · exact .fail (by omega)
structure Kr (r r':Rn):Prop where
  key:r'.key=r.key
  len:r'.states.length=r.states.length
  each:∀ i (h:i < r.states.length) (h':i < r'.states.length),Kp r.states[i] r'.states[i]
theorem Kr.refl (r:Rn):Kr r r:=⟨rfl,rfl,fun _ _ _ => .refl _⟩
theorem Kr.trans {a b c:Rn} (h:Kr a b) (k:Kr b c):Kr a c :=
  ⟨k.key.trans h.key,k.len.trans h.len,fun i h1 h2 => (h.each i h1 (by rw [h.len]; exact h1)).trans (k.each i _ h2)⟩
theorem Kr.set {r:Rn} {i:Nat} (hi:i < r.states.length) {s:Stt} (h:Kp r.states[i] s):Kr r (withS r i s):=by
  refine ⟨rfl,by simp [withS],fun j h1 h2 => ?_⟩
  simp only [withS,List.getElem_set]
  split
  · rename_i e; subst e; exact h
  · exact .refl _
theorem Kr.can (r:Rn) (x:Int):Kr r { r with is:=x,states:=canL r.states r.states.length } :=
  ⟨rfl,canL_len _ _,fun j h1 h2 => by simp only [canL_all']; exact .cancel _⟩
theorem Kr.mend (r:Rn):Kr r (mendS r):=by
  unfold mendS; split
  · exact .can r 2
  · refine ⟨rfl,mendL_len _ _ _,fun j h1 h2 => ?_⟩
    simp only [mendL_all']
    split
    · exact .ready _
    · exact .refl _
theorem Kr.one (now:Int) (r:Rn):Kr r (oneS now r):=by
  unfold oneS; split
  · exact .refl r
  split
  · rename_i t s h1 h2
    obtain ⟨hi,e⟩:=List.getElem?_eq_some_iff.1 h2
    exact (Kr.set hi (e ▸ .expire t _ now)).trans (.mend _)
  · exact .refl r
theorem Kr.rnd (now:Int) (r:Rn):∀ k,Kr r (rndS now r k)
  | 0 => .refl r
  | k+1 => (Kr.rnd now r k).trans (.one now _)
theorem Kr.settle (now:Int) (r:Rn):Kr r (settleS now r):=Kr.rnd now r _
theorem Kr.told {now token:Int} {f:Task→Stt→Stt×Int} {r:Rn} (hf:∀ t s,s.is=2→(f t s).2=0→Kp s (f t s).1) (h:(toldS now f token r).2=0):Kr r (toldS now f token r).1:=by
  unfold toldS toldQ at h ⊢
  have hs:=Kr.settle now r
  generalize settleS now r=q at h hs ⊢
  split at h
  · cases h
  rename_i i hi
  try simp only [hi]
  obtain ⟨hg,hp,_⟩:=fndS_get hi
  simp only [holdP,Bool.and_eq_true,decide_eq_true_eq] at hp
  split at h
  · rename_i t s h1 h2
    obtain ⟨hi2,e⟩:=List.getElem?_eq_some_iff.1 h2
    split at h
    · rename_i hne; exact absurd h hne
    · rename_i hne
      try simp only [h1,h2]
      rw [if_neg hne]
      refine hs.trans ((Kr.set hi2 ?_).trans (.mend _))
      rw [e]; exact hf t s (by rw [← e]; exact hp.1) (Classical.not_not.1 hne)
  · cases h
theorem Kr.cancel {now:Int} {r:Rn} (h:(cancelS now r).2=0):Kr r (cancelS now r).1:=by
  unfold cancelS cancelQ at h ⊢
  split at h
  · cases h
  · rename_i hne; rw [if_neg hne]; exact (Kr.settle now r).trans (.can _ 3)
theorem lease_tried {now token:Int} {r:Rn} (hr:r.states.length=r.dag.tasks.length) (h:(leaseS now token r).2.2=0) :
    ∃ i,∃ hi:i < r.states.length,(leaseS now token r).2.1=(i:Int)∧r.states[i].is≠3∧(leaseS now token r).1.key=r.key∧(leaseS now token r).1.states.length=r.states.length ∧
      ∀ j (h1:j < r.states.length) (h2:j < (leaseS now token r).1.states.length),(leaseS now token r).1.states[j].tried=r.states[j].tried+(if j=i then 1 else 0) ∧
        (r.states[j].is=3→(leaseS now token r).1.states[j].is=3∧(leaseS now token r).1.states[j].result=r.states[j].result):=by
  have hs:=Kr.settle now r
  have hd:=(settleS_shp now r).dag
  unfold leaseS leaseQ at h ⊢
  generalize settleS now r=q at h hs hd ⊢
  split at h
  · cases h
  split at h
  · cases h
  split at h
  · cases h
  rename_i h1 h2 h3
  rw [if_neg h1,if_neg h2,if_neg h3]
  split at h
  case h_2 => cases h
  rename_i i hi
  simp only [hi]
  obtain ⟨hg,hp,_⟩:=fndS_get hi
  have hlen:q.states.length=q.dag.tasks.length:=by rw [hd,← hr]; exact hs.len
  rw [leaseAt_get (by omega) hg]
  simp only [dueP,Bool.and_eq_true,decide_eq_true_eq] at hp
  have hi':i < r.states.length:=by rw [← hs.len]; exact hg
  have hl:(tleaseS (q.dag.tasks[i]'(by omega)) q.states[i] now token).1=⟨2,q.states[i].tried+1,untilS [now,(q.dag.tasks[i]'(by omega)).lease],token,q.states[i].result⟩:=by
    unfold tleaseS; rw [if_neg h1,if_neg (by omega)]
  rw [hl]
  refine ⟨i,hi',rfl,fun e => ?_,hs.key,by simp only [withS,List.length_set]; exact hs.len,fun j hj hj2 => ?_⟩
  · have:=((hs.each i hi' hg).done e).1; omega
  · have hk:=hs.each j hj (by rw [hs.len]; exact hj)
    simp only [withS,List.getElem_set]
    by_cases e:i=j
    · subst e
      simp only [if_true,hk.tried]
      refine ⟨trivial,fun e => ?_⟩
      have:=(hk.done e).1; omega
    · have e':¬ j=i:=fun h => e h.symm
      simp only [e,e',if_false,hk.tried,Int.add_zero,true_and]
      exact hk.done
/-! The tasks of a world,by their places. -/
def AtR (l:List Rn) (k:Str) (i:Nat) (s:Stt):Prop:=∃ r∈l,r.key=k∧r.states[i]?=some s
theorem runs_uniq {l:List Rn} (h:Rise (runsN l)) {a b:Nat} (ha:a < l.length) (hb:b < l.length) (e:l[a].key=l[b].key):a=b:=by
  have e1:=(lbR_at h ha).1
  have e2:=(lbR_at h hb).1
  rw [e,e2] at e1; exact e1.symm
theorem at_mem {l:List Rn} (h:Rise (runsN l)) {r:Rn} (hr:r∈l) {i:Nat} {s:Stt}:AtR l r.key i s↔r.states[i]?=some s:=by
  constructor
  · rintro ⟨r',hr',hk,hs⟩
    obtain ⟨a,ha,rfl⟩:=List.mem_iff_getElem.1 hr
    obtain ⟨b,hb,rfl⟩:=List.mem_iff_getElem.1 hr'
    have:=runs_uniq h hb ha hk; subst this; exact hs
  · intro hs; exact ⟨r,hr,rfl,hs⟩
theorem at_one {l:List Rn} (h:Rise (runsN l)) {k:Str} {i:Nat} {s s':Stt} (h1:AtR l k i s) (h2:AtR l k i s'):s=s':=by
  obtain ⟨r,hr,rfl,hs⟩:=h1
  have:=(at_mem h hr).1 h2
  rw [hs] at this; exact Option.some.inj this
theorem at_set {l:List Rn} (h:Rise (runsN l)) {j:Nat} (hj:j < l.length) {r:Rn} (hk:r.key=l[j].key) {k:Str} {i:Nat} {s:Stt} :
    AtR (l.set j r) k i s↔if k=r.key then r.states[i]?=some s else AtR l k i s:=by
  have hru:runsN (l.set j r)=runsN l:=by
    refine List.ext_getElem (by simp [runsN]) fun a h1 h2 => ?_
    simp only [runsN,List.getElem_map,List.getElem_set]
    split
    · rename_i e; subst e; exact hk
    · rfl
  split
  · rename_i e; subst e
    exact at_mem (by rw [hru]; exact h) (List.mem_set hj r)
  · rename_i e
    constructor
    · rintro ⟨r',hr',rfl,hs⟩
      rcases List.mem_or_eq_of_mem_set hr' with k | rfl
      · exact ⟨r',k,rfl,hs⟩
      · exact absurd rfl e
    · rintro ⟨r',hr',rfl,hs⟩
      obtain ⟨a,ha,rfl⟩:=List.mem_iff_getElem.1 hr'
      refine ⟨l[a],List.mem_iff_getElem.2 ⟨a,by simpa using ha, ?_⟩,rfl,hs⟩
      rw [List.getElem_set_ne]
      intro e2; subst e2; exact e hk.symm
structure Stp (w x:Wd) (q:Option (Str×Nat)):Prop where
  fwd:∀ k i s',AtR x.runs k i s'→(∃ s,AtR w.runs k i s∧s'.tried=s.tried+(if q=some (k,i) then 1 else 0))∨((∀ s,¬ AtR w.runs k i s)∧s'.tried=0∧q≠some (k,i))
  bwd:∀ k i s,AtR w.runs k i s→∃ s',AtR x.runs k i s'∧(s.is=3→s'.is=3∧s'.result=s.result)
  who:∀ k i,q=some (k,i)→∃ s,AtR w.runs k i s∧s.is≠3
theorem Stp.same {w x:Wd} (h:x.runs=w.runs):Stp w x none :=
  ⟨fun k i s' a => .inl ⟨s',h ▸ a,by simp⟩,fun k i s a => ⟨s,h.symm ▸ a,fun e => ⟨e,rfl⟩⟩,fun k i e => by cases e⟩
theorem Stp.set {w x:Wd} (h:WR w) {j:Nat} (hj:j < w.runs.length) {r:Rn} (hk:Kr w.runs[j] r) (hx:x.runs=w.runs.set j r):Stp w x none:=by
  have hm:=List.getElem_mem hj
  refine ⟨fun k i s' a => .inl ?_,fun k i s a => ?_,fun k i e => by cases e⟩
  · rw [hx,at_set h.rruns hj hk.key] at a
    split at a
    · rename_i e; subst e
      obtain ⟨hi,e⟩:=List.getElem?_eq_some_iff.1 a
      have hi':i < w.runs[j].states.length:=by rw [← hk.len]; exact hi
      have:=hk.each i hi' hi
      refine ⟨w.runs[j].states[i], ?_,by rw [← e,this.tried]; simp⟩
      rw [hk.key]; exact (at_mem h.rruns hm).2 (List.getElem?_eq_getElem hi')
    · exact ⟨s',a,by simp⟩
  · by_cases e:k=w.runs[j].key
    · subst e
      have a':=(at_mem h.rruns hm).1 a
      obtain ⟨hi,e⟩:=List.getElem?_eq_some_iff.1 a'
      have hi':i < r.states.length:=by rw [hk.len]; exact hi
      refine ⟨r.states[i], ?_, ?_⟩
      · rw [hx,at_set h.rruns hj hk.key,if_pos hk.key.symm]; exact List.getElem?_eq_getElem hi'
      · rw [← e]; exact (hk.each i hi hi').done
    · refine ⟨s, ?_,fun e => ⟨e,rfl⟩⟩
      rw [hx,at_set h.rruns hj hk.key,if_neg (fun e2 => e (e2.trans hk.key))]; exact a
theorem Stp.lease {w x:Wd} (h:WR w) {j:Nat} (hj:j < w.runs.length) {now token:Int} (hz:(leaseS now token w.runs[j]).2.2=0) (hx:x.runs=w.runs.set j (leaseS now token w.runs[j]).1) :
    ∃ i:Nat,(leaseS now token w.runs[j]).2.1=(i:Int)∧Stp w x (some (w.runs[j].key,i)):=by
  have hm:=List.getElem_mem hj
  obtain ⟨i0,hi0,e0,n3,hkey,hlen,hall⟩:=lease_tried (h.runs _ hm).2.len hz
  generalize (leaseS now token w.runs[j]).1=r at hx hkey hlen hall
  refine ⟨i0,e0,fun k i s' a => .inl ?_,fun k i s a => ?_,fun k i e => ?_⟩
  · rw [hx,at_set h.rruns hj hkey] at a
    split at a
    · rename_i e; subst e
      obtain ⟨hi,e⟩:=List.getElem?_eq_some_iff.1 a
      have hi':i < w.runs[j].states.length:=by rw [← hlen]; exact hi
      refine ⟨w.runs[j].states[i], ?_, ?_⟩
      · rw [hkey]; exact (at_mem h.rruns hm).2 (List.getElem?_eq_getElem hi')
      · rw [← e,(hall i hi' hi).1,hkey]
        congr 1
        by_cases c:i=i0
        · subst c; simp
        · rw [if_neg c,if_neg]; intro q; simp only [Option.some.injEq,Prod.mk.injEq] at q; exact c q.2.symm
    · rename_i e
      refine ⟨s',a, ?_⟩
      rw [if_neg,Int.add_zero]
      intro q; simp only [Option.some.injEq,Prod.mk.injEq] at q; exact e (q.1.symm.trans hkey.symm)
  · by_cases e:k=w.runs[j].key
    · subst e
      have a':=(at_mem h.rruns hm).1 a
      obtain ⟨hi,e⟩:=List.getElem?_eq_some_iff.1 a'
      have hi':i < r.states.length:=by rw [hlen]; exact hi
      refine ⟨r.states[i], ?_, ?_⟩
      · rw [hx,at_set h.rruns hj hkey,if_pos hkey.symm]; exact List.getElem?_eq_getElem hi'
      · rw [← e]; exact (hall i hi hi').2
    · refine ⟨s, ?_,fun e => ⟨e,rfl⟩⟩
      rw [hx,at_set h.rruns hj hkey,if_neg (fun e2 => e (e2.trans hkey))]; exact a
  · simp only [Option.some.injEq,Prod.mk.injEq] at e
    obtain ⟨rfl,rfl⟩:=e
    exact ⟨_,(at_mem h.rruns hm).2 (List.getElem?_eq_getElem hi0),n3⟩
theorem new_tried (key:Str) (d:Dag):∀ s∈(newS key d).states,s.tried=0:=fun s hs => by
  obtain ⟨i,hi,rfl⟩:=List.mem_iff_getElem.1 hs
  have hk:=Kr.mend (startS key d)
  have hi':i < (startS key d).states.length:=by rw [← hk.len]; exact hi
  have:=(hk.each i hi' hi).tried
  rw [show (newS key d).states[i].tried=(startS key d).states[i].tried from this]
  simp [startS,zS]
theorem Stp.put {w x:Wd} {key:Str} {d:Dag} (hn:key∉runsN w.runs) (hx:x.runs=putR w.runs (newS key d)):Stp w x none:=by
  have hk:(newS key d).key=key:=(Kr.mend (startS key d)).key
  have hmem:∀ r,r∈x.runs↔r=newS key d∨r∈w.runs:=fun r => by
    rw [hx]; unfold putR
    rw [hk,if_neg hn,Nat.add_zero,List.mem_append,List.mem_cons]
    conv => rhs; rhs; rw [← List.take_append_drop (lbR key w.runs) w.runs,List.mem_append]
    exact ⟨fun h => by rcases h with h | h | h<;>simp [h],fun h => by rcases h with h | h | h<;>simp [h]⟩
  refine ⟨fun k i s' a => ?_,fun k i s a => ?_,fun k i e => by cases e⟩
  · obtain ⟨r,hr,rfl,hs⟩:=a
    rcases (hmem r).1 hr with rfl | hr
    · refine .inr ⟨fun s a => ?_,new_tried key d s' (List.mem_of_getElem? hs),by simp⟩
      obtain ⟨r',hr',e,_⟩:=a
      rw [hk] at e; exact hn (e ▸ List.mem_map.2 ⟨r',hr',rfl⟩)
    · exact .inl ⟨s',⟨r,hr,rfl,hs⟩,by simp⟩
  · obtain ⟨r,hr,rfl,hs⟩:=a
    exact ⟨s,⟨r,(hmem r).2 (.inr hr),rfl,hs⟩,fun e => ⟨e,rfl⟩⟩
theorem kind_stp (w:Wd) (c:Cmd) (h:WR w) :
    (c.kind=3∧(kindW w c).2.why=0→∃ i:Nat,(kindW w c).2.task=(i:Int)∧Stp w (kindW w c).1 (some ((kindW w c).2.key,i))∧(kindW w c).2.token=w.token+1∧(kindW w c).1.token=w.token+1) ∧
    (¬ (c.kind=3∧(kindW w c).2.why=0)→Stp w (kindW w c).1 none):=by
  have htold:∀ f:Task→Stt→Stt×Int,(∀ t s,s.is=2→(f t s).2=0→Kp s (f t s).1)→Stp w (toldW w f c.token).1 none:=fun f hf => by
    unfold toldW
    split
    · exact .same rfl
    · rename_i i hi
      obtain ⟨hg,_,_⟩:=fndS_get hi
      rw [getD_get hg]
      split
      · exact .same rfl
      · rename_i hz
        exact .set h hg (Kr.told hf (Classical.not_not.1 hz)) rfl
  have away:∀ {x:Wd×Ans},c.kind≠3→Stp w x.1 none→(c.kind=3∧x.2.why=0→∃ i:Nat,x.2.task=(i:Int)∧Stp w x.1 (some (x.2.key,i))∧x.2.token=w.token+1∧x.1.token=w.token+1)∧(¬ (c.kind=3∧x.2.why=0)→Stp w x.1 none) :=
    fun n s => ⟨fun e => absurd e.1 n,fun _ => s⟩
  unfold kindW
  by_cases k1:c.kind=1
  · rw [if_pos k1]
    refine away (by omega) (.same ?_)
    unfold graphS; repeat' split
    all_goals rfl
  rw [if_neg k1]; by_cases k2:c.kind=2
  · rw [if_pos k2]
    refine away (by omega) ?_
    unfold beginS; repeat' split
    all_goals first | exact .same rfl | skip
    rename_i hk1 hin hk3 hk4
    exact .put hk3 rfl
  rw [if_neg k2]; by_cases k3:c.kind=3
  · rw [if_pos k3]; unfold pollS; split
    · exact ⟨fun e => by have:=e.2; simp [whyA] at this,fun _ => .same rfl⟩
    rename_i htok
    split
    · exact ⟨fun e => by have:=e.2; simp [whyA] at this,fun _ => .same rfl⟩
    · rename_i i hi
      obtain ⟨hg,hp,_⟩:=fndS_get hi
      rw [getD_get hg]
      have hz:(leaseS w.now (w.token+1) w.runs[i]).2.2=0:=by simpa [leaseP] using hp
      obtain ⟨j,e1,st⟩:=Stp.lease (x:={ w with token:=w.token+1,runs:=w.runs.set i (leaseS w.now (w.token+1) w.runs[i]).1 }) h hg hz rfl
      exact ⟨fun _ => ⟨j,e1,st,rfl,rfl⟩,fun n => absurd ⟨k3,rfl⟩ n⟩
  rw [if_neg k3]; refine away k3 ?_
  by_cases k4:c.kind=4
  · rw [if_pos k4]; refine htold _ fun t s h2 hz => ?_
    unfold tbeatS; rw [if_neg (by omega)]; exact ⟨rfl,fun e => ⟨e,rfl⟩⟩
  rw [if_neg k4]; by_cases k5:c.kind=5
  · rw [if_pos k5]; refine htold _ fun t s h2 hz => ?_
    unfold tdoneS at hz ⊢; rw [if_neg (by omega)] at hz ⊢
    split at hz
    · cases hz
    · rename_i c; rw [if_neg c]; exact ⟨rfl,fun e => by omega⟩
  rw [if_neg k5]; by_cases k6:c.kind=6
  · rw [if_pos k6]; exact htold _ fun t s h2 hz => .fail h2
  rw [if_neg k6]; by_cases k7:c.kind=7
  · rw [if_pos k7]; unfold cancelW
    split
    · exact .same rfl
    rename_i hk
    have hk':c.key∈runsN w.runs:=Classical.not_not.1 hk
    obtain ⟨hi,_⟩:=lbR_get h.rruns hk'
    rw [getD_get hi]
    split
    · exact .same rfl
    · rename_i hz; exact .set h hi (Kr.cancel (Classical.not_not.1 hz)) rfl
  rw [if_neg k7]; by_cases k8:c.kind=8
  · rw [if_pos k8]; unfold tickW; split<;>exact .same rfl
  rw [if_neg k8]; by_cases k9:c.kind=9
  · rw [if_pos k9]; unfold stateW; split<;>exact .same rfl
  rw [if_neg k9]; split<;>exact .same rfl
def r13:List RV:=[.c 2 (some 4)]
def c16:C :=
  (.seq
 (.reg false [p (.mov (.k (.bool false)))] [])
 (.seq
 (.reg false [p (.build [.int .i64 0,.int .i64 0,.fsl .nil 2 [],.fsl .nil 5 []] []),
 p (.build [.int .i64 0,.str [],.str [],.int .i64 0,.int .i64 0,.str [],.str [],.fsl .nil 4 []] [(0,1,.k (.int .i64 3))]),
 p (.call true (.k (.fn 14 [] [])) [.r 1,.r 0]),
 p (.mov (.r 0)),
 p (.ext (.r 0) 0),
 p (.ext (.r 1) 1),
 p (.alloc 4 (.agg [.int .i64 0,.int .i64 0,.fsl .nil 2 [],.fsl .nil 5 []])),
 p (.alloc 6 (.agg [.int .i64 0,.str [],.int .i64 0,.int .i64 0,.int .i64 0,.fsl .nil 5 []])),
 p (.store (some 4) (.r 1) (.r 3)),
 p (.store (some 6) (.r 1) (.r 3))] [(2,.r 2)])
 (.seq
 (.reg false [p (.fad 0 (.v 2)),
 p (.load (none) (.r 0)),
 p (.bin .eql (.r 0) (.k (.int .i64 192))),
 p (.mov (.r 0)),
 ⟨.build [.int .i64 0,.int .i64 0,.fsl .nil 2 [],.fsl .nil 5 []] [],some (0,true),[]⟩,
 ⟨.call true (.k (.fn 17 [] [])) [.r 0],some (1,true),[]⟩,
 p (.pick (.r 2) (.r 0) (.k (.bool false))),
 p (.mov (.r 0))] [(0,.r 0)])
 .ret)))
def r16:List RV:=[.t 0]
theorem en16:EnP Tryz.prog 16 16 c16 r16:=mkEnP (by kernel_rfl) Tryz.func16 (by kernel_rfl) ⟨_,rfl,by kernel_rfl,by kernel_rfl⟩
def c21:C :=
  (.seq
 (.reg false [p (.mov (.k (.fsl .nil 8 [])))] [(0,.v 0)])
 (.seq
 (.reg false [p (.mov (.v 0)),
 p (.mov (.v 0)),
 p (.len false (.r 0)),
 p (.mnx false (.r 0) [.k (.int .i64 60)]),
 p (.slc 8 (.r 3) none (some (.r 0)) none),
 p (.mov (.r 0))] [(2,.r 0)])
 .ret))
def r21:List RV:=[.t 2]
theorem en21:EnP Tryz.prog 21 8 c21 r21:=mkEnP (by kernel_rfl) Tryz.func21 (by kernel_rfl) ⟨_,rfl,by kernel_rfl,by kernel_rfl⟩
def c3:C :=
  (.seq
 (.reg false [p (.box 4 (.v 0)),
 p (.box 8 (.v 1)),
 p (.mov (.k (.bool false)))] [(2,.r 2),(3,.r 1)])
 (.seq
 (.reg false [p (.load (some 4) (.v 2)),
 p (.call true (.k (.fn 13 [] [])) [.r 0]),
 p (.store (some 4) (.v 2) (.r 0))] [(2,.v 2),(3,.v 3)])
 (.seq
 (.reg false [p (.load (some 4) (.v 2)),
 p (.load (some 8) (.v 3)),
 p (.call true (.k (.fn 14 [] [])) [.r 1,.r 0]),
 p (.mov (.r 0)),
 p (.ext (.r 0) 0),
 p (.ext (.r 1) 1),
 p (.alloc 4 (.agg [.int .i64 0,.int .i64 0,.fsl .nil 2 [],.fsl .nil 5 []])),
 p (.alloc 6 (.agg [.int .i64 0,.str [],.int .i64 0,.int .i64 0,.int .i64 0,.fsl .nil 5 []])),
 p (.store (some 4) (.r 1) (.r 3)),
 p (.store (some 6) (.r 1) (.r 3))] [(2,.v 2),(3,.v 3),(5,.r 3),(6,.r 2)])
 (.seq
 (.reg false [p (.load (some 4) (.v 2)),
 p (.load (some 8) (.v 3)),
 p (.call true (.k (.fn 15 [] [])) [.r 1,.r 0]),
 p (.mov (.r 0)),
 p (.ext (.r 0) 0),
 p (.ext (.r 1) 1),
 p (.alloc 4 (.agg [.int .i64 0,.int .i64 0,.fsl .nil 2 [],.fsl .nil 5 []])),
 p (.alloc 6 (.agg [.int .i64 0,.str [],.int .i64 0,.int .i64 0,.int .i64 0,.fsl .nil 5 []])),
 p (.store (some 4) (.r 1) (.r 3)),
 p (.store (some 6) (.r 1) (.r 3))] [(2,.v 2),(5,.v 5),(6,.v 6),(7,.r 3),(8,.r 2)])
 (.seq
 (.reg true [p (.call true (.k (.fn 16 [] [])) []),
 p (.mov (.r 0)),
 ⟨.load (some 4) (.v 2),some (0,true),[]⟩,
 ⟨.call true (.k (.fn 17 [] [])) [.r 0],some (1,true),[]⟩,
 ⟨.load (some 4) (.v 2),some (2,true),[]⟩,
 ⟨.call true (.k (.fn 18 [] [])) [.r 0],some (3,true),[]⟩,
 ⟨.eqb false (.r 2) (.r 0),some (4,true),[]⟩,
 p (.pick (.r 5) (.r 0) (.k (.bool false))),
 p (.mov (.r 0)),
 ⟨.load (some 4) (.v 5),some (0,true),[]⟩,
 ⟨.load (some 4) (.v 7),some (1,true),[]⟩,
 ⟨.call true (.k (.fn 19 [] [])) [.r 1,.r 0],some (2,true),[]⟩,
 p (.pick (.r 3) (.r 0) (.k (.bool false))),
 p (.mov (.r 0)),
 ⟨.load (some 6) (.v 6),some (0,true),[]⟩,
 ⟨.load (some 6) (.v 8),some (1,true),[]⟩,
 ⟨.call true (.k (.fn 20 [] [])) [.r 1,.r 0],some (2,true),[]⟩,
 p (.pick (.r 3) (.r 0) (.k (.bool false))),
 p (.mov (.r 0))] [(4,.r 0)])
 .ret)))))
def r3:List RV:=[.t 4]
def c4:C :=
  (.seq
 (.reg false [p (.box 4 (.v 0)),
 p (.box 8 (.v 1)),
 p (.mov (.k (.bool false)))] [(2,.r 2),(3,.r 1)])
 (.seq
 (.reg false [p (.load (some 4) (.v 2)),
 p (.call true (.k (.fn 13 [] [])) [.r 0]),
 p (.store (some 4) (.v 2) (.r 0))] [(2,.v 2),(3,.v 3)])
 (.seq
 (.seq
 (.reg false [p (.load (some 4) (.v 2)),
 p (.call true (.k (.fn 18 [] [])) [.r 0]),
 p (.un .not (.r 0))] [(2,.v 2),(3,.v 3),(13,.r 0)])
 (.cond (.v 13)
 (.seq
 (.reg false [p (.call true (.k (.fn 16 [] [])) []),
 p (.mov (.r 0))] [(4,.r 0)])
 .ret)
 .skip))
 (.seq
 (.reg false [p (.load (some 4) (.v 2)),
 p (.load (some 8) (.v 3)),
 p (.call true (.k (.fn 14 [] [])) [.r 1,.r 0]),
 p (.mov (.r 0)),
 p (.ext (.r 0) 0),
 p (.ext (.r 1) 1),
 p (.alloc 4 (.agg [.int .i64 0,.int .i64 0,.fsl .nil 2 [],.fsl .nil 5 []])),
 p (.alloc 6 (.agg [.int .i64 0,.str [],.int .i64 0,.int .i64 0,.int .i64 0,.fsl .nil 5 []])),
 p (.store (some 4) (.r 1) (.r 3)),
 p (.store (some 6) (.r 1) (.r 3))] [(2,.v 2),(3,.v 3),(5,.r 3),(6,.r 2)])
 (.seq
 (.seq
 (.reg false [p (.load (some 4) (.v 5)),
 p (.call true (.k (.fn 18 [] [])) [.r 0]),
 p (.un .not (.r 0)),
 p (.mov (.r 0)),
 ⟨.fad 0 (.v 5),some (0,false),[]⟩,
 ⟨.load (none) (.r 0),some (1,false),[]⟩,
 ⟨.fad 0 (.v 2),some (2,false),[]⟩,
 ⟨.load (none) (.r 0),some (3,false),[]⟩,
 ⟨.bin .lss (.r 2) (.r 0),some (4,false),[]⟩,
 p (.pick (.r 5) (.k (.bool true)) (.r 0)),
 p (.mov (.r 0)),
 ⟨.fad 1 (.v 5),some (0,false),[]⟩,
 ⟨.load (none) (.r 0),some (1,false),[]⟩,
 ⟨.fad 1 (.v 2),some (2,false),[]⟩,
 ⟨.load (none) (.r 0),some (3,false),[]⟩,
 ⟨.bin .lss (.r 2) (.r 0),some (4,false),[]⟩,
 p (.pick (.r 5) (.k (.bool true)) (.r 0)),
 p (.mov (.r 0)),
 ⟨.fad 2 (.v 5),some (0,false),[]⟩,
 ⟨.load (none) (.r 0),some (1,false),[]⟩,
 ⟨.len false (.r 0),some (2,false),[]⟩,
 ⟨.fad 2 (.v 2),some (3,false),[]⟩,
 ⟨.load (none) (.r 0),some (4,false),[]⟩,
 ⟨.len false (.r 0),some (5,false),[]⟩,
 ⟨.bin .lss (.r 3) (.r 0),some (6,false),[]⟩,
 p (.pick (.r 7) (.k (.bool true)) (.r 0)),
 p (.mov (.r 0)),
 ⟨.fad 3 (.v 5),some (0,false),[]⟩,
 ⟨.load (none) (.r 0),some (1,false),[]⟩,
 ⟨.len false (.r 0),some (2,false),[]⟩,
 ⟨.fad 3 (.v 2),some (3,false),[]⟩,
 ⟨.load (none) (.r 0),some (4,false),[]⟩,
 ⟨.len false (.r 0),some (5,false),[]⟩,
 ⟨.bin .lss (.r 3) (.r 0),some (6,false),[]⟩,
 p (.pick (.r 7) (.k (.bool true)) (.r 0)),
 p (.mov (.r 0)),
 ⟨.fad 0 (.v 6),some (0,false),[]⟩,
 ⟨.load (none) (.r 0),some (1,false),[]⟩,
 ⟨.bin .neq (.r 0) (.k (.int .i64 0)),some (2,false),[]⟩,
 ⟨.mov (.r 0),some (3,false),[]⟩,
 ⟨.load (some 4) (.v 5),some (0,true),[]⟩,
 ⟨.load (some 4) (.v 2),some (1,true),[]⟩,
 ⟨.call true (.k (.fn 19 [] [])) [.r 1,.r 0],some (2,true),[]⟩,
 ⟨.un .not (.r 0),some (3,true),[]⟩,
 ⟨.pick (.r 4) (.r 0) (.k (.bool false)),some (8,false),[]⟩,
 p (.pick (.r 9) (.k (.bool true)) (.r 0))] [(3,.v 3),(5,.v 5),(6,.v 6),(66,.r 0)])
 (.cond (.v 66)
 (.seq
 (.reg false [p (.mov (.k (.bool false)))] [(4,.r 0)])
 .ret)
 .skip))
 (.seq
 (.seq
 (.reg false [p (.fad 0 (.v 3)),
 p (.load (none) (.r 0)),
 p (.bin .neq (.r 0) (.k (.int .i64 1))),
 p (.mov (.r 0)),
 ⟨.fad 0 (.v 3),some (0,true),[]⟩,
 ⟨.load (none) (.r 0),some (1,true),[]⟩,
 ⟨.bin .neq (.r 0) (.k (.int .i64 2)),some (2,true),[]⟩,
 p (.pick (.r 3) (.r 0) (.k (.bool false)))] [(3,.v 3),(5,.v 5),(6,.v 6),(74,.r 0)])
 (.cond (.v 74)
 (.seq
 (.reg false [p (.call true (.k (.fn 16 [] [])) []),
 p (.mov (.r 0))] [(4,.r 0)])
 .ret)
 .skip))
 (.seq
 (.reg false [p (.load (some 4) (.v 5)),
 p (.load (some 8) (.v 3)),
 p (.call true (.k (.fn 14 [] [])) [.r 1,.r 0]),
 p (.mov (.r 0)),
 p (.ext (.r 0) 0),
 p (.ext (.r 1) 1),
 p (.alloc 4 (.agg [.int .i64 0,.int .i64 0,.fsl .nil 2 [],.fsl .nil 5 []])),
 p (.alloc 6 (.agg [.int .i64 0,.str [],.int .i64 0,.int .i64 0,.int .i64 0,.fsl .nil 5 []])),
 p (.store (some 4) (.r 1) (.r 3)),
 p (.store (some 6) (.r 1) (.r 3))] [(5,.v 5),(6,.v 6),(7,.r 3),(8,.r 2)])
 (.seq
 (.reg false [p (.call true (.k (.fn 16 [] [])) []),
 p (.mov (.r 0)),
 ⟨.load (some 4) (.v 5),some (0,true),[]⟩,
 ⟨.load (some 4) (.v 7),some (1,true),[]⟩,
 ⟨.call true (.k (.fn 19 [] [])) [.r 1,.r 0],some (2,true),[]⟩,
 p (.pick (.r 3) (.r 0) (.k (.bool false))),
 p (.mov (.r 0)),
 ⟨.load (some 6) (.v 6),some (0,true),[]⟩,
 ⟨.load (some 6) (.v 8),some (1,true),[]⟩,
 ⟨.call true (.k (.fn 20 [] [])) [.r 1,.r 0],some (2,true),[]⟩,
 p (.pick (.r 3) (.r 0) (.k (.bool false))),
 p (.mov (.r 0))] [(4,.r 0)])
 .ret))))))))
def r4:List RV:=[.t 4]
def c6:C :=
  (.seq
 (.reg false [p (.box 4 (.v 0)),
 p (.mov (.k (.bool false)))] [(1,.v 1),(2,.v 2),(3,.v 3),(4,.r 1)])
 (.seq
 (.reg false [p (.load (some 4) (.v 4)),
 p (.call true (.k (.fn 13 [] [])) [.r 0]),
 p (.store (some 4) (.v 4) (.r 0))] [(1,.v 1),(2,.v 2),(3,.v 3),(4,.v 4)])
 (.seq
 (.seq
 (.reg false [p (.load (some 4) (.v 4)),
 p (.call true (.k (.fn 18 [] [])) [.r 0]),
 p (.un .not (.r 0))] [(1,.v 1),(2,.v 2),(3,.v 3),(4,.v 4),(19,.r 0)])
 (.cond (.v 19)
 (.seq
 (.reg false [p (.call true (.k (.fn 16 [] [])) []),
 p (.mov (.r 0))] [(8,.r 0)])
 .ret)
 .skip))
 (.seq
 (.reg false [p (.mov (.k (.fn 22 [] [])))] [(1,.v 1),(2,.v 2),(3,.v 3),(4,.v 4),(9,.r 0)])
 (.seq
 (.reg true [p (.mov (.v 9)),
 p (.mov (.v 9)),
 p (.load (some 4) (.v 4)),
 p (.mov (.v 1)),
 p (.call false (.r 2) [.r 1,.r 0]),
 p (.mov (.v 2)),
 p (.call false (.r 5) [.r 1,.r 0]),
 p (.mov (.v 9)),
 p (.mov (.v 9)),
 ⟨.load (some 4) (.v 4),none,[4,2]⟩,
 p (.mov (.v 2)),
 p (.call false (.r 2) [.r 1,.r 0]),
 p (.mov (.v 1)),
 p (.call false (.r 5) [.r 1,.r 0]),
 ⟨.alloc 4 (.agg [.int .i64 0,.int .i64 0,.fsl .nil 2 [],.fsl .nil 5 []]),none,[11,9,7,4,2,0]⟩,
 ⟨.alloc 4 (.agg [.int .i64 0,.int .i64 0,.fsl .nil 2 [],.fsl .nil 5 []]),none,[12,10,8,5,3,1,0]⟩,
 p (.store (some 4) (.r 1) (.r 9)),
 p (.store (some 4) (.r 1) (.r 3))] [(3,.v 3),(4,.v 4),(10,.r 3),(11,.r 2)])
 (.seq
 (.reg false [p (.load (some 4) (.v 10)),
 p (.alloc 4 (.agg [.int .i64 0,.int .i64 0,.fsl .nil 2 [],.fsl .nil 5 []])),
 p (.store (some 4) (.r 0) (.r 1))] [(3,.v 3),(4,.v 4),(10,.v 10),(11,.v 11),(12,.r 1)])
 (.seq
 (.seq
 (.reg false [p (.fad 0 (.v 10)),
 p (.load (none) (.r 0)),
 p (.build [.int .i64 0,.str [],.str [],.int .i64 0,.int .i64 0,.str [],.str [],.fsl .nil 4 []] [(0,1,.k (.int .i64 8)),(4,1,.r 0)]),
 p (.mov (.v 3)),
 p (.build [.int .i64 0,.str [],.str [],.int .i64 0,.int .i64 0,.str [],.str [],.fsl .nil 4 []] [(0,1,.k (.int .i64 9)),(1,1,.r 0)]),
 p (.build [.int .i64 0,.str [],.str [],.int .i64 0,.int .i64 0,.str [],.str [],.fsl .nil 4 []] [(0,1,.k (.int .i64 10))]),
 p (.build [.int .i64 0,.str [],.str [],.int .i64 0,.int .i64 0,.str [],.str [],.fsl .nil 4 []] [(0,1,.k (.int .i64 9))]),
 p (.bsl 8 [.r 4,.r 2,.r 1,.r 0]),
 p (.len false (.r 0)),
 p (.mov (.k (.int .i64 0)))] [(4,.v 4),(10,.v 10),(11,.v 11),(12,.v 12),(43,.r 2),(44,.r 1),(45,.r 0)])
 (.block 0
 (.loop
 (.seq
 (.reg false [p (.bin .lss (.v 45) (.v 44))] [(4,.v 4),(10,.v 10),(11,.v 11),(12,.v 12),(43,.v 43),(44,.v 44),(45,.v 45),(46,.r 0)])
 (.seq
 (.cond (.v 46)
 .skip
 (.exit 0))
 (.seq
 (.block 1
 (.seq
 (.reg false [p (.iad 8 (.v 43) (.v 45)),
 p (.load (some 8) (.r 0)),
 p (.alloc 8 (.agg [.int .i64 0,.str [],.str [],.int .i64 0,.int .i64 0,.str [],.str [],.fsl .nil 4 []])),
 p (.store (some 8) (.r 0) (.r 1))] [(4,.v 4),(10,.v 10),(11,.v 11),(12,.v 12),(14,.r 1),(43,.v 43),(44,.v 44),(45,.v 45)])
 (.reg false [p (.load (some 4) (.v 12)),
 p (.load (some 8) (.v 14)),
 p (.call true (.k (.fn 14 [] [])) [.r 1,.r 0]),
 p (.mov (.r 0)),
 p (.ext (.r 0) 0),
 p (.ext (.r 1) 1),
 p (.store (some 4) (.v 12) (.r 1))] [(4,.v 4),(10,.v 10),(11,.v 11),(12,.v 12),(43,.v 43),(44,.v 44),(45,.v 45)])))
 (.reg false [p (.bin .add (.v 45) (.k (.int .i64 1))),
 p (.mov (.r 0))] [(4,.v 4),(10,.v 10),(11,.v 11),(12,.v 12),(43,.v 43),(44,.v 44),(45,.r 0)])))))))
 (.frz
 (.seq
 (.reg false [p (.call true (.k (.fn 16 [] [])) []),
 p (.mov (.r 0)),
 ⟨.load (some 4) (.v 10),some (0,true),[]⟩,
 ⟨.load (some 4) (.v 11),some (1,true),[]⟩,
 ⟨.call true (.k (.fn 19 [] [])) [.r 1,.r 0],some (2,true),[]⟩,
 p (.pick (.r 3) (.r 0) (.k (.bool false))),
 p (.mov (.r 0)),
 ⟨.load (some 4) (.v 10),some (0,true),[]⟩,
 ⟨.load (some 4) (.v 12),some (1,true),[]⟩,
 ⟨.call true (.k (.fn 19 [] [])) [.r 1,.r 0],some (2,true),[]⟩,
 p (.pick (.r 3) (.r 0) (.k (.bool false))),
 p (.mov (.r 0)),
 ⟨.fad 0 (.v 10),some (0,true),[]⟩,
 ⟨.load (none) (.r 0),some (1,true),[]⟩,
 ⟨.fad 0 (.v 4),some (2,true),[]⟩,
 ⟨.load (none) (.r 0),some (3,true),[]⟩,
 ⟨.bin .geq (.r 2) (.r 0),some (4,true),[]⟩,
 p (.pick (.r 5) (.r 0) (.k (.bool false))),
 p (.mov (.r 0))] [(8,.r 0)])
 .ret)))))))))
def c7:C :=
  (.seq
 (.reg false [p (.mov (.k (.bool false)))] [(0,.v 0)])
 (.seq
 (.reg false [p (.mov (.v 0)),
 p (.call true (.k (.fn 21 [] [])) [.r 0]),
 p (.mov (.r 0))] [(0,.r 0)])
 (.seq
 (.reg false [p (.mov (.v 0)),
 p (.call true (.k (.fn 23 [] [])) [.r 0]),
 p (.mov (.r 0)),
 p (.ext (.r 0) 0),
 p (.ext (.r 1) 1),
 p (.alloc 4 (.agg [.int .i64 0,.int .i64 0,.fsl .nil 2 [],.fsl .nil 5 []])),
 p (.store (some 4) (.r 0) (.r 2)),
 p (.mov (.r 2))] [(0,.v 0),(3,.r 2),(4,.r 0)])
 (.seq
 (.reg false [p (.alloc 4 (.agg [.int .i64 0,.int .i64 0,.fsl .nil 2 [],.fsl .nil 5 []]))] [(0,.v 0),(3,.v 3),(4,.v 4),(5,.r 0)])
 (.seq
 (.reg false [p (.mov (.k (.fsl .nil 6 [])))] [(0,.v 0),(3,.v 3),(4,.v 4),(5,.v 5),(6,.r 0)])
 (.seq
 (.seq
 (.reg false [p (.mov (.v 0)),
 p (.len false (.r 0)),
 p (.mov (.k (.int .i64 0)))] [(3,.v 3),(4,.v 4),(5,.v 5),(6,.v 6),(18,.r 2),(19,.r 1),(20,.r 0)])
 (.block 0
 (.loop
 (.seq
 (.reg false [p (.bin .lss (.v 20) (.v 19))] [(3,.v 3),(4,.v 4),(5,.v 5),(6,.v 6),(18,.v 18),(19,.v 19),(20,.v 20),(21,.r 0)])
 (.seq
 (.cond (.v 21)
 .skip
 (.exit 0))
 (.seq
 (.block 1
 (.seq
 (.reg false [p (.iad 8 (.v 18) (.v 20)),
 p (.load (some 8) (.r 0)),
 p (.alloc 8 (.agg [.int .i64 0,.str [],.str [],.int .i64 0,.int .i64 0,.str [],.str [],.fsl .nil 4 []])),
 p (.store (some 8) (.r 0) (.r 1))] [(3,.v 3),(4,.v 4),(5,.v 5),(6,.v 6),(8,.r 1),(18,.v 18),(19,.v 19),(20,.v 20)])
 (.seq
 (.reg false [p (.load (some 4) (.v 5)),
 p (.load (some 8) (.v 8)),
 p (.call true (.k (.fn 15 [] [])) [.r 1,.r 0]),
 p (.mov (.r 0)),
 p (.ext (.r 0) 0),
 p (.ext (.r 1) 1),
 p (.alloc 4 (.agg [.int .i64 0,.int .i64 0,.fsl .nil 2 [],.fsl .nil 5 []])),
 p (.alloc 6 (.agg [.int .i64 0,.str [],.int .i64 0,.int .i64 0,.int .i64 0,.fsl .nil 5 []])),
 p (.store (some 4) (.r 1) (.r 3)),
 p (.store (some 6) (.r 1) (.r 3))] [(3,.v 3),(4,.v 4),(5,.v 5),(6,.v 6),(9,.r 3),(10,.r 2),(18,.v 18),(19,.v 19),(20,.v 20)])
 (.reg true [p (.load (some 4) (.v 9)),
 p (.mov (.v 6)),
 p (.load (some 6) (.v 10)),
 p (.bsl 6 [.r 0]),
 ⟨.app 6 72 (.r 2) (.r 0),none,[3]⟩,
 p (.store (some 4) (.v 5) (.r 4)),
 p (.mov (.r 1))] [(3,.v 3),(4,.v 4),(5,.v 5),(6,.r 0),(18,.v 18),(19,.v 19),(20,.v 20)]))))
 (.reg false [p (.bin .add (.v 20) (.k (.int .i64 1))),
 p (.mov (.r 0))] [(3,.v 3),(4,.v 4),(5,.v 5),(6,.v 6),(18,.v 18),(19,.v 19),(20,.r 0)])))))))
 (.frz
 (.seq
 (.reg false [p (.call true (.k (.fn 16 [] [])) []),
 p (.mov (.r 0)),
 ⟨.load (some 4) (.v 3),some (0,true),[]⟩,
 ⟨.load (some 4) (.v 5),some (1,true),[]⟩,
 ⟨.call true (.k (.fn 19 [] [])) [.r 1,.r 0],some (2,true),[]⟩,
 p (.pick (.r 3) (.r 0) (.k (.bool false))),
 p (.mov (.r 0)),
 ⟨.mov (.v 4),some (0,true),[]⟩,
 ⟨.mov (.v 6),some (1,true),[]⟩,
 ⟨.call true (.k (.fn 24 [] [])) [.r 1,.r 0],some (2,true),[]⟩,
 p (.pick (.r 3) (.r 0) (.k (.bool false))),
 p (.mov (.r 0))] [(2,.r 0)])
 .ret))))))))
def zW:Wd:=⟨0,0,[],[]⟩
theorem zW_M:WdM zW:=⟨⟨by simp [zW],by simp [zW],by simp [zW],by simp [zW]⟩,by simp [zW]⟩
section
theorem zW_WR:WR zW:=by
  refine ⟨by simp [zW,MT],by simp [zW,MT],by simp [zW],by simp [zW], ?_, ?_,by simp [zW],by simp [zW], ?_⟩
  · intro i h; simp [zW,dagsN] at h
  · intro i h; simp [zW,runsN] at h
  · simp [zW,toksR,Tk]
def c3S:Cmd:=⟨3,[],[],0,0,[],⟨[],[]⟩⟩
theorem alive_do:doS zW c3S=(zW,whyA 192):=by
  unfold doS; rw [if_pos zW_WR]
  simp [kindW,c3S,pollS,zW,MT,fndS]
abbrev z4V:V:=V.agg [V.int .i64 0,V.int .i64 0,V.fsl .nil 2 [],V.fsl .nil 5 []]
abbrev z6V:V:=V.agg [V.int .i64 0,V.str [],V.int .i64 0,V.int .i64 0,V.int .i64 0,V.fsl .nil 5 []]
theorem setC_z4 (b:Wd):setC (some 4) 0 z4V (wdV b)=some (wdV b):=rfl
theorem setC_z6 (b:Ans):setC (some 6) 0 z6V (ansV b)=some (ansV b):=rfl
theorem getC_cmd (b:Cmd):getC (some 8) 0 (cmdV b)=some (cmdV b):=rfl
theorem getC_cmd0 (b:Cmd):getC none 0 (cmdV b)=some (.int .i64 b.kind):=rfl
open Classical in
theorem law_alive20:PCall Tryz.prog 16 [] (.bool true):=by
  refine en16 (by simp) (by simp [closedL]) ?_
  have h1:PCall Tryz.prog 14 [z4V,V.agg [.int .i64 3,.str [],.str [],.int .i64 0,.int .i64 0,.str [],.str [],.fsl .nil 4 []]] (waV (zW,whyA 192)):=by
    have:=world_do zW c3S zW_M.ok (by simp [c3S,okDagL])
    rw [alive_do] at this
    exact this.of_eq (by simp [wdV,cmdV,c3S,zW,loL,lo,mv_nil,tasksV])
  have h2:PCall Tryz.prog 17 [z4V] (.bool true):=by
    have:=world_right zW zW_M.ok
    rw [decide_eq_true zW_WR] at this
    exact this.of_eq (by simp [wdV,zW,loL,lo,mv_nil])
  simp (maxSteps:=1000000) (disch:=omega) only [rg,gD,simprocAttr,c16]
  refine ⟨_,h1, ?_⟩
  simp (maxSteps:=1000000) (disch:=omega) only [rg,gD,simprocAttr,waV,setC_z4,setC_z6,getC_why,whyA]
  refine ⟨_,h2, ?_⟩
  simp (maxSteps:=1000000) (disch:=omega) only [rg,gD,simprocAttr]
  (refine fin_x rfl ?_ ?_<;>simp [pack,lo,loL,V.closed,closedL,mv_closed])
end
abbrev Pl:=Str×Int
def plV (p:Pl):V:=.agg [.str p.1,.int .i64 p.2]
def pmV {β:Type} (f:β→V) (l:List (Pl×β)):List (V×V):=l.map fun p => (plV p.1,f p.2)
def pget {β:Type}:List (Pl×β)→Pl→Option β
  | [],_ => none
  | (q,b)::r,p => if p=q then some b else pget r p
def pset {β:Type}:List (Pl×β)→Pl→β→List (Pl×β)
  | [],p,b => [(p,b)]
  | (q,c)::r,p,b => if p=q then (p,b)::r else (q,c)::pset r p b
theorem keq_pl (p q:Pl):keq (plV p) (plV q)=decide (p=q):=by
  obtain ⟨a,b⟩:=p; obtain ⟨c,d⟩:=q
  simp only [plV,keq,keqL,keq1,Bool.and_true,Prod.mk.injEq]
  rw [Bool.eq_iff_iff]; simp
theorem pm_get {β:Type} (f:β→V) (p:Pl):∀ l:List (Pl×β),mget (pmV f l) (plV p)=(pget l p).map f
  | [] => rfl
  | (q,b)::l => by
    simp only [pmV,List.map_cons,mget,pget,keq_pl,decide_eq_true_eq]
    split
    · rfl
    · exact pm_get f p l
theorem pm_set {β:Type} (f:β→V) (p:Pl) (b:β):∀ l:List (Pl×β),mset (pmV f l) (plV p) (f b)=pmV f (pset l p b)
  | [] => rfl
  | (q,c)::l => by
    simp only [pmV,List.map_cons,mset,pset,keq_pl,decide_eq_true_eq]
    split
    · rfl
    · simp only [List.map_cons,List.cons.injEq,true_and]; exact pm_set f p b l
theorem pm_ok {β:Type} (f:β→V) (p:Pl) (l:List (Pl×β)):keysOk [1,0] (plV p) (pmV f l):=by
  refine ⟨by simp [plV,keyLike,eqF],fun q hq => ?_⟩
  obtain ⟨r,_,rfl⟩:=List.mem_map.1 hq
  simp [plV,keyLike,eqF]
theorem mput_set (k v0 v:V):∀ l:List (V×V),mput (mset l k v0) (mix l k) v=mset l k v
  | [] => rfl
  | (k',v')::l => by
    simp only [mset,mix]
    split
    · rfl
    · simp only [mput]; rw [mput_set k v0 v l]
theorem mix_lt (k v0:V):∀ l:List (V×V),mix l k < (mset l k v0).length
  | [] => by simp [mix,mset]
  | (k',v')::l => by
    simp only [mset,mix]
    split
    · simp
    · simp only [List.length_cons]; have:=mix_lt k v0 l; omega
theorem pget_pset {β:Type} (p q:Pl) (b:β):∀ l:List (Pl×β),pget (pset l p b) q=if q=p then some b else pget l q
  | [] => by simp [pset,pget]
  | (r,c)::l => by
    simp only [pset]
    split
    · rename_i e; subst e
      simp only [pget]
      split<;>rfl
    · rename_i e
      simp only [pget]
      split
      · rename_i e2; subst e2; rw [if_neg (fun h => e h.symm)]
      · exact pget_pset p q b l
def intV (n:Int):V:=.int .i64 n
def cntP (l:List (Pl×Int)) (p:Pl):Int:=(pget l p).getD 0
theorem cntP_set (l:List (Pl×Int)) (p q:Pl) (n:Int):cntP (pset l p n) q=if q=p then n else cntP l q:=by
  unfold cntP; rw [pget_pset]; split<;>rfl
structure Lc (x:Wd) (lm:List (Pl×Int)):Prop where
  cnt:∀ k (i:Nat) s,AtR x.runs k i s→cntP lm (k,(i:Int))=s.tried
  zer:∀ k (i:Nat),(∀ s,¬ AtR x.runs k i s)→cntP lm (k,(i:Int))=0
def Lr (x:Wd) (rm:List (Pl×Str)):Prop:=∀ k (i:Nat) t,pget rm (k,(i:Int))=some t→∃ s,AtR x.runs k i s∧s.is=3∧s.result=t
def La (rm:List (Pl×Str)) (k:Str) (i:Nat) (s:Stt):Prop:=s.is=3→pget rm (k,(i:Int))=some s.result
def Ln (rm:List (Pl×Str)) (l:List Rn):Prop:=∀ r∈l,∀ (i:Nat) s,r.states[i]?=some s→La rm r.key i s
structure Lv (x:Wd) (last:Int) (lm:List (Pl×Int)) (rm:List (Pl×Str)):Prop where
  right:WR x
  cnt:Lc x lm
  res:Lr x rm
  all:Ln rm x.runs
  last:last≤x.token
theorem Lv.start:Lv zW 0 [] []:=by
  refine ⟨zW_WR,⟨?_,fun k i h => rfl⟩,fun k i t h => by simp [pget] at h,fun r hr => by simp [zW] at hr,Int.le_refl _⟩
  rintro k i s ⟨r,hr,_⟩; simp [zW] at hr
theorem Lv.lease {w x:Wd} {last:Int} {lm:List (Pl×Int)} {rm:List (Pl×Str)} (h:Lv w last lm rm) {k:Str} {i:Nat} (st:Stp w x (some (k,i))) :
    (0≤cntP lm (k,(i:Int))∧cntP lm (k,(i:Int))≤8)∧pget rm (k,(i:Int))=none∧Lc x (pset lm (k,(i:Int)) (cntP lm (k,(i:Int))+1))∧Lr x rm:=by
  obtain ⟨s,ha,h3⟩:=st.who k i rfl
  have hc:=h.cnt.cnt k i s ha
  refine ⟨?_, ?_,⟨fun k' i' s' a => ?_,fun k' i' hn => ?_⟩,fun k' i' t ht => ?_⟩
  · obtain ⟨r,hr,_,hs⟩:=ha
    have:=((h.right.runs r hr).2.q 0).tried
    have h1:=(h.right.runs r hr).2.stands s (List.mem_of_getElem? hs)
    have h2:=(h.right.runs r hr).2
    obtain ⟨hi,e⟩:=List.getElem?_eq_some_iff.1 hs
    have ht:=(trs_stands (h2.trs hi)).2
    have htr:=(dag_tries h2.dag) _ (List.getElem_mem (l:=r.dag.tasks) (n:=i) (by have:=h2.len; omega))
    have h1:=(standsS_iff _).1 h1
    rw [hc,← e]; rw [← e] at h1
    obtain ⟨t1,_⟩:=ht
    constructor<;>omega
  · cases hg:pget rm (k,(i:Int)) with
    | none => rfl
    | some t =>
      obtain ⟨s',ha',h3',_⟩:=h.res k i t hg
      have:=at_one h.right.rruns ha ha'; subst this
      exact absurd h3' h3
  · rw [cntP_set]
    rcases st.fwd k' i' s' a with ⟨s0,a0,e⟩ | ⟨n,e,ne⟩
    · rw [e]
      by_cases c:(k',(i':Int))=(k,(i:Int))
      · have c':k=k'∧i=i':=by simp only [Prod.mk.injEq] at c; exact ⟨c.1.symm,by omega⟩
        obtain ⟨rfl,rfl⟩:=c'
        rw [if_pos rfl,if_pos rfl,h.cnt.cnt _ _ _ a0]
      · rw [if_neg c,if_neg (fun q => c (by simp only [Option.some.injEq,Prod.mk.injEq] at q; rw [q.1,q.2])),Int.add_zero]
        exact h.cnt.cnt _ _ _ a0
    · rw [if_neg (fun q => ne (by simp only [Prod.mk.injEq] at q; rw [q.1,show i'=i by omega])),e]
      exact h.cnt.zer _ _ n
  · rw [cntP_set]
    rw [if_neg]
    · exact h.cnt.zer _ _ fun s0 a0 => by
        obtain ⟨s',a',_⟩:=st.bwd _ _ _ a0
        exact hn s' a'
    · intro q
      simp only [Prod.mk.injEq] at q
      have e:i'=i:=by omega
      rw [q.1,e] at hn
      obtain ⟨s',a',_⟩:=st.bwd _ _ _ ha
      exact hn s' a'
  · obtain ⟨s0,a0,b0,rfl⟩:=h.res k' i' t ht
    obtain ⟨s',a',e⟩:=st.bwd _ _ _ a0
    exact ⟨s',a',e b0⟩
theorem Lv.other {w x:Wd} {last:Int} {lm:List (Pl×Int)} {rm:List (Pl×Str)} (h:Lv w last lm rm) (st:Stp w x none):Lc x lm∧Lr x rm:=by
  refine ⟨⟨fun k' i' s' a => ?_,fun k' i' hn => ?_⟩,fun k' i' t ht => ?_⟩
  · rcases st.fwd k' i' s' a with ⟨s0,a0,e⟩ | ⟨n,e,ne⟩
    · rw [e,if_neg (by simp),Int.add_zero]; exact h.cnt.cnt _ _ _ a0
    · rw [e]; exact h.cnt.zer _ _ n
  · exact h.cnt.zer _ _ fun s0 a0 => by
      obtain ⟨s',a',_⟩:=st.bwd _ _ _ a0
      exact hn s' a'
  · obtain ⟨s0,a0,b0,rfl⟩:=h.res k' i' t ht
    obtain ⟨s',a',e⟩:=st.bwd _ _ _ a0
    exact ⟨s',a',e b0⟩
theorem task_asked {x:Wd} {lm:List (Pl×Int)} {rm:List (Pl×Str)} (hw:WR x) (hc:Lc x lm) (hr:Lr x rm) {r:Rn} (hm:r∈x.runs) {i:Nat} (hi:i < r.states.length) (hi2:i < r.dag.tasks.length) :
    (∀ t,pget rm (r.key,(i:Int))=some t→r.states[i].is=3∧r.states[i].result=t)∧cntP lm (r.key,(i:Int))=r.states[i].tried∧r.states[i].tried≤r.dag.tasks[i].tries:=by
  have ha:AtR x.runs r.key i r.states[i]:=(at_mem hw.rruns hm).2 (List.getElem?_eq_getElem hi)
  refine ⟨fun t ht => ?_,hc.cnt _ _ _ ha, ?_⟩
  · obtain ⟨s,a,b,c⟩:=hr _ _ _ ht
    have:=at_one hw.rruns a ha; subst this; exact ⟨b,c⟩
  · have h2:=(hw.runs r hm).2
    exact (trs_stands (h2.trs hi)).2.1
theorem Lr.note {x:Wd} {rm:List (Pl×Str)} (hr:Lr x rm) {k:Str} {i:Nat} {s:Stt} (ha:AtR x.runs k i s) (h3:s.is=3):Lr x (pset rm (k,(i:Int)) s.result):=by
  intro k' i' t ht
  rw [pget_pset] at ht
  split at ht
  · rename_i e
    simp only [Prod.mk.injEq] at e
    have e2:i'=i:=by omega
    rw [e.1,e2]
    simp only [Option.some.injEq] at ht
    exact ⟨s,ha,h3,ht⟩
  · exact hr k' i' t ht
theorem La.note {x:Wd} {rm:List (Pl×Str)} (hw:WR x) {k:Str} {i:Nat} {s:Stt} (ha:AtR x.runs k i s) {k':Str} {i':Nat} {s':Stt} (ha':AtR x.runs k' i' s') (h:La rm k' i' s'):La (pset rm (k,(i:Int)) s.result) k' i' s':=by
  intro h3
  rw [pget_pset]
  split
  · rename_i e
    simp only [Prod.mk.injEq] at e
    have e2:i'=i:=by omega
    rw [e.1,e2] at ha'
    rw [at_one hw.rruns ha ha']
  · exact h h3
theorem La.self (rm:List (Pl×Str)) (k:Str) (i:Nat) (s:Stt):La (pset rm (k,(i:Int)) s.result) k i s:=fun _ => by rw [pget_pset,if_pos rfl]
theorem reach_le:reachBytes≤4611686018427387904:=by decide
def yDag:Ty:=.st (fDag .nil)
def tCmd:Ty:=.st (.cons yI (.cons .s (.cons .s (.cons yI (.cons yI (.cons .s (.cons yDag .nil)))))))
theorem dag_ok0 {d:Dag} (h:okDag d):okDagL d:=by
  have hr:=reach_le
  obtain ⟨g1,g2,g3⟩:=h
  exact ⟨by omega,fun t ht => by obtain ⟨_,z2,_⟩:=g3 t ht; omega⟩
theorem cmd_of {vs:List V} (h:TyV tCmd vs):∃ c:Cmd,vs=[.int .i64 c.kind,.str c.key,.str c.name,.int .i64 c.token,.int .i64 c.time,.str c.text,.str c.dag.name,tasksV c.dag.tasks]∧okDagL c.dag:=by
  obtain ⟨u1,w1,rfl,h1,u2,w2,rfl,h2,u3,w3,rfl,h3,u4,w4,rfl,h4,u5,w5,rfl,h5,u6,w6,rfl,h6,u7,w7,rfl,h7,rfl⟩:=h
  obtain ⟨a,rfl,qa⟩:=yI_of h1
  obtain ⟨b,rfl,qb⟩:=yS_of h2
  obtain ⟨c,rfl,qc⟩:=yS_of h3
  obtain ⟨d,rfl,qd⟩:=yI_of h4
  obtain ⟨e,rfl,qe⟩:=yI_of h5
  obtain ⟨f,rfl,qf⟩:=yS_of h6
  obtain ⟨g,ws,rfl,q,hw⟩:=fDag_of (r:=.nil) h7
  obtain rfl:ws=[]:=hw
  exact ⟨⟨a,b,c,d,e,f,g⟩,rfl,dag_ok0 q⟩
def cmdsV (l:List Cmd):V:=.fsl .loose 8 (mv cmdV l)
abbrev z8V:V:=V.agg [V.int .i64 0,V.str [],V.str [],V.int .i64 0,V.int .i64 0,V.str [],V.str [],V.fsl .nil 4 []]
theorem setC_z8 (b:Cmd):setC (some 8) 0 z8V (cmdV b)=some (cmdV b):=rfl
def wz (k:Nat) (w:Wd):V:=if k=0 then z4V else wdV w
theorem wz_lo (k:Nat) (w:Wd) (h:k=0→w=zW):lo (wz k w)=wdV w:=by
  unfold wz; split
  · rename_i e; rw [h e]; simp [lo,loL,wdV,zW,mv_nil]
  · exact wdV_lo w
theorem getC_wz (k:Nat) (w:Wd):getC (some 4) 0 (wz k w)=some (wz k w):=by unfold wz; split<;>rfl
theorem setC_wz (k:Nat) (w b:Wd):setC (some 4) 0 (wz k w) (wdV b)=some (wdV b):=by unfold wz; split<;>rfl
theorem Gro.id {lo n:Nat} {m:Hm} {sz:Nat} {l:List V} {p k:Nat} (h:Gro lo n m sz (.sl p 0 k) l):lo≤p∧p < n:=by
  rcases h with ⟨st,_,e,_⟩ | ⟨id,h1,h2,e,_⟩
  · cases e
  · simp at e; rw [e.1]; exact ⟨h1,h2⟩
theorem law_short (l:List Cmd) (hl:l.length≤4611686018427387904):PCall Tryz.prog 21 [cmdsV l] (cmdsV (l.take 60)):=by
  refine en21 (by simp) (by simp [closedL,cmdsV,V.closed,mv_closed cmdV_closed]) ?_
  have d1:List.take (min (l.length:Int) 60).toNat (mv cmdV l)=mv cmdV (l.take 60):=by
    rw [mv_take]; congr 1
    by_cases c:l.length≤60
    · rw [List.take_of_length_le (by omega),List.take_of_length_le c]
    · rw [show (min (l.length:Int) 60).toNat=60 by omega]
  have sl:∀ a b,slSt .loose a b none=.loose:=fun _ _ => rfl
  simp (maxSteps:=1000000) (disch:=omega) only [rg,gD,simprocAttr,c21,cmdsV,mv_len,d1,sl]
  refine ⟨⟨by omega,by omega,by omega⟩, ?_⟩
  (refine fin_x rfl ?_ ?_<;>simp [pack,lo,loL,V.closed,closedL,mv_closed,cmdsV,mv_closed cmdV_closed,mv_lo cmdV_lo])
def tCmds:Ty:=.l 8 112 tCmd
theorem cmds_of {vs:List V} (h:TyV tCmds vs):∃ l:List Cmd,vs=[.fsl .loose 8 (mv cmdV l)]∧l.length≤4611686018427387904∧∀ c∈l,okDagL c.dag:=by
  obtain ⟨l,rfl,h1,h2⟩:=list_of (e:=tCmd) (f:=cmdV) (q:=fun c => okDagL c.dag) (fun us hu => by obtain ⟨c,rfl,hc⟩:=cmd_of hu; exact ⟨c,rfl,hc⟩) h
  have hr:=reach_le
  exact ⟨l,rfl,by omega,h2⟩
def tk (w:Wd) (t:Int):Wd:=if t < 0∨MT < t then w else { w with now:=max w.now t }
def Grow (w w':Wd):Prop:=w.now≤w'.now∧w.token≤w'.token∧w.dags.length≤w'.dags.length∧w.runs.length≤w'.runs.length
theorem Grow.refl (w:Wd):Grow w w:=⟨Int.le_refl _,Int.le_refl _,Nat.le_refl _,Nat.le_refl _⟩
theorem kind_grow (w:Wd) (c:Cmd) (h:WR w):Grow w (kindW w c).1:=by
  have htold:∀ f:Task→Stt→Stt×Int,Grow w (toldW w f c.token).1:=fun f => by
    unfold toldW; repeat' split
    all_goals first | exact .refl w | exact ⟨Int.le_refl _,Int.le_refl _,Nat.le_refl _,by simp⟩
  unfold kindW
  by_cases k1:c.kind=1
  · rw [if_pos k1]; unfold graphS; repeat' split
    all_goals first | exact .refl w | skip
    refine ⟨Int.le_refl _,Int.le_refl _, ?_,Nat.le_refl _⟩
    simp only [putD,List.length_append,List.length_take,List.length_cons,List.length_drop]; omega
  rw [if_neg k1]; by_cases k2:c.kind=2
  · rw [if_pos k2]; unfold beginS; repeat' split
    all_goals first | exact .refl w | skip
    rename_i hk1 hin hk3 hk4
    refine ⟨Int.le_refl _,Int.le_refl _,Nat.le_refl _, ?_⟩
    simp only [putR,new_key,if_neg hk3,List.length_append,List.length_take,List.length_cons,List.length_drop]; omega
  rw [if_neg k2]; by_cases k3:c.kind=3
  · rw [if_pos k3]; unfold pollS; repeat' split
    all_goals first | exact .refl w | skip
    exact ⟨Int.le_refl _,by simp only; omega,Nat.le_refl _,by simp⟩
  rw [if_neg k3]; by_cases k4:c.kind=4
  · rw [if_pos k4]; exact htold _
  rw [if_neg k4]; by_cases k5:c.kind=5
  · rw [if_pos k5]; exact htold _
  rw [if_neg k5]; by_cases k6:c.kind=6
  · rw [if_pos k6]; exact htold _
  rw [if_neg k6]; by_cases k7:c.kind=7
  · rw [if_pos k7]; unfold cancelW; repeat' split
    all_goals first | exact .refl w | exact ⟨Int.le_refl _,Int.le_refl _,Nat.le_refl _,by simp⟩
  rw [if_neg k7]; by_cases k8:c.kind=8
  · rw [if_pos k8]; unfold tickW; repeat' split
    all_goals first | exact .refl w | skip
    exact ⟨by simp only; omega,Int.le_refl _,Nat.le_refl _,Nat.le_refl _⟩
  rw [if_neg k8]; by_cases k9:c.kind=9
  · rw [if_pos k9]; unfold stateW; repeat' split
    all_goals exact .refl w
  rw [if_neg k9]; split<;>exact .refl w
theorem twice (w:Wd) (c:Cmd) (h:WR w) (hk:c.kind=1∨c.kind=2):kindW (kindW w c).1 c=kindW w c:=by
  have hR:=keeps w c h
  rcases hk with k1 | k2
  · have e:∀ x,kindW x c=graphS x c.dag:=fun x => by unfold kindW; rw [if_pos k1]
    rw [e] at hR
    rw [e,e]
    by_cases c1:dagRightS c.dag≠0
    · have e1:∀ x,graphS x c.dag=(x,whyA (dagRightS c.dag)):=fun x => by unfold graphS; rw [if_pos c1]
      rw [e1,e1]
    by_cases c2:c.dag.name∈dagsN w.dags
    · by_cases c3:c.dag∈w.dags
      · have e1:graphS w c.dag=(w,whyA 0):=by unfold graphS; rw [if_neg c1,if_pos c2,if_pos c3]
        rw [e1]; exact e1
      · have e1:graphS w c.dag=(w,whyA 161):=by unfold graphS; rw [if_neg c1,if_pos c2,if_neg c3]
        rw [e1]; exact e1
    by_cases c4:16≤w.dags.length
    · have e1:graphS w c.dag=(w,whyA 2):=by unfold graphS; rw [if_neg c1,if_neg c2,if_pos c4]
      rw [e1]; exact e1
    have e1:graphS w c.dag=({ w with dags:=putD w.dags c.dag },whyA 0):=by unfold graphS; rw [if_neg c1,if_neg c2,if_neg c4]
    rw [e1]
    have hm:c.dag∈putD w.dags c.dag:=by unfold putD; simp
    show graphS { w with dags:=putD w.dags c.dag } c.dag=_
    unfold graphS
    rw [if_neg c1,if_pos (show c.dag.name∈dagsN (putD w.dags c.dag) from List.mem_map.2 ⟨_,hm,rfl⟩),if_pos hm]
  · have e:∀ x,kindW x c=beginS x c.key c.name:=fun x => by unfold kindW; rw [if_neg (by omega),if_pos k2]
    rw [e] at hR
    rw [e,e]
    by_cases c1:c.key.length < 1∨16 < c.key.length
    · have e1:beginS w c.key c.name=(w,whyA 1):=by unfold beginS; rw [if_pos c1]
      rw [e1]; exact e1
    by_cases c2:c.name∉dagsN w.dags
    · have e1:beginS w c.key c.name=(w,whyA 161):=by unfold beginS; rw [if_neg c1,if_pos c2]
      rw [e1]; exact e1
    by_cases c3:c.key∈runsN w.runs
    · by_cases c4:(w.runs.getD (lbR c.key w.runs) zR).dag.name≠c.name
      · have e1:beginS w c.key c.name=(w,whyA 190):=by unfold beginS; rw [if_neg c1,if_neg c2,if_pos c3,if_pos c4]
        rw [e1]; exact e1
      · have e1:beginS w c.key c.name=(w,whyA 0):=by unfold beginS; rw [if_neg c1,if_neg c2,if_pos c3,if_neg c4]
        rw [e1]; exact e1
    by_cases c4:64≤w.runs.length
    · have e1:beginS w c.key c.name=(w,whyA 2):=by unfold beginS; rw [if_neg c1,if_neg c2,if_neg c3,if_pos c4]
      rw [e1]; exact e1
    have e1:beginS w c.key c.name=({ w with runs:=putR w.runs (newS c.key (w.dags.getD (lbD c.name w.dags) zD)) },whyA 0):=by unfold beginS; rw [if_neg c1,if_neg c2,if_neg c3,if_neg c4]
    rw [e1] at hR
    rw [e1]
    obtain ⟨hi,hnm⟩:=lbD_get h.rdags (Classical.not_not.1 c2)
    rw [getD_get hi] at hR ⊢
    have hnk:=new_key c.key w.dags[lbD c.name w.dags]
    have hnd:(newS c.key w.dags[lbD c.name w.dags]).dag=w.dags[lbD c.name w.dags]:=(mendS_shp _).dag
    generalize newS c.key w.dags[lbD c.name w.dags]=nr at hnk hnd hR ⊢
    have hm:nr∈putR w.runs nr:=by unfold putR; simp
    obtain ⟨i,hil,hie⟩:=List.mem_iff_getElem.1 hm
    obtain ⟨g1,g2⟩:=lbR_at (l:=putR w.runs nr) hR.rruns hil
    rw [hie,hnk] at g1 g2
    show beginS { w with runs:=putR w.runs nr } c.key c.name=_
    unfold beginS
    rw [if_neg c1,if_neg c2,if_pos g2]
    simp only [g1,getD_get hil,hie,hnd,hnm,ne_eq,not_true_eq_false,if_false]
theorem do_keeps {w:Wd} (c:Cmd) (h:WR w):WR (doS w c).1:=by unfold doS; rw [if_pos h]; exact keeps w c h
theorem do_grow {w:Wd} (c:Cmd) (h:WR w):Grow w (doS w c).1:=by unfold doS; rw [if_pos h]; exact kind_grow w c h
structure Jr (d:Dag) (j now:Int) (r:Rn):Prop where
  R:RnR r
  dag:r.dag=d
  is:(settleS now r).is=0
  held:∀ s∈(settleS now r).states,s.is≠2
  stab:∀ t,now≤t→settleS t r=settleS now r
  sum:triedS (settleS now r).states=j
  due:∀ s∈(settleS now r).states,s.due≤now+1048576
structure Ls (d:Dag) (j now1 tok:Int) (q r1:Rn) (i:Nat):Prop where
  R:RnR r1
  Rq:RnR q
  key:r1.key=q.key
  dag:r1.dag=d
  is:r1.is=0
  lt:i < q.states.length
  ltt:i < d.tasks.length
  eq:∃ u:Stt,r1=withS q i u∧u.is=2∧u.token=tok∧now1 < u.due∧u.due≤now1+1048576
  held:∀ k (h:k < r1.states.length),k≠i→r1.states[k].is≠2
  due:∀ k (h:k < r1.states.length),k≠i→r1.states[k].due≤now1
  sum:triedS r1.states=j+1
theorem Ls.len {d:Dag} {j now1 tok:Int} {q r1:Rn} {i:Nat} (h:Ls d j now1 tok q r1 i):i < r1.states.length:=by
  obtain ⟨u,rfl,_⟩:=h.eq
  simpa [withS] using h.lt
theorem Ls.at {d:Dag} {j now1 tok:Int} {q r1:Rn} {i:Nat} (h:Ls d j now1 tok q r1 i):(r1.states[i]'h.len).is=2∧(r1.states[i]'h.len).token=tok∧now1 < (r1.states[i]'h.len).due∧(r1.states[i]'h.len).due≤now1+1048576:=by
  obtain ⟨u,rfl,h1,h2,h3,h4⟩:=h.eq
  simp only [withS,List.getElem_set_self]
  exact ⟨h1,h2,h3,h4⟩
theorem after {d:Dag} {j now1 tok t:Int} {q r1:Rn} {i:Nat} (h:Ls d j now1 tok q r1 i) {u:Stt} (h2:u.is≠2) (ht:u.tried=(r1.states[i]'h.len).tried) (hd:u.due≤t+1048576) (h1:now1≤t+1048576)
    (hs:Pm (withS r1 i u)):(∀ s∈(mendS (withS r1 i u)).states,s.is≠2)∧triedS (mendS (withS r1 i u)).states=j+1∧((mendS (withS r1 i u)).is=0→∀ s∈(mendS (withS r1 i u)).states,s.due≤t+1048576):=by
  have hi:=h.len
  refine ⟨mend_not2 fun s hs => ?_, ?_,fun h0 => ?_⟩
  · obtain ⟨k,hk,rfl⟩:=List.mem_iff_getElem.1 hs
    simp only [withS,List.length_set] at hk
    simp only [withS,List.getElem_set]
    split
    · exact h2
    · exact h.held k hk (by omega)
  · rw [sumT_mend]
    simp only [withS]
    rw [sumT_set hi,ht,h.sum]; omega
  · have hm:(mendS (withS r1 i u)).states=mendL (withS r1 i u).dag.tasks (withS r1 i u).states (withS r1 i u).states.length:=by
      unfold mendS at h0 ⊢
      split
      · rename_i c; rw [if_pos c] at h0; cases h0
      · rfl
    rw [hm]
    refine mendL_all (p:=fun s => s.due≤t+1048576) (fun s hs => by unfold treadyS; split<;>exact hs) (fun s hs => ?_) _
    obtain ⟨k,hk,rfl⟩:=List.mem_iff_getElem.1 hs
    simp only [withS,List.length_set] at hk
    simp only [withS,List.getElem_set]
    split
    · exact hd
    · have:=h.due k hk (by omega); omega
theorem Jr.start {key:Str} {d:Dag} (hk:1≤key.length∧key.length≤16) (hd:dagRightS d=0):Jr d 0 0 (newS key d):=by
  have hR:=new_R hk hd
  have h2:∀ s∈(newS key d).states,s.is≠2:=mend_not2 fun s hs => by simp only [startS,List.mem_replicate] at hs; rw [hs.2]; simp [zS]
  have hst:∀ t,settleS t (newS key d)=newS key d:=fun t => settle_none h2
  have hz:∀ s∈(newS key d).states,s.due=0:=mendS_all (p:=fun s => s.due=0) (fun s hs => by unfold tcancelS; split<;>simp [hs]) (fun s hs => by unfold treadyS; split<;>simp [hs]) fun s hs => by
    simp only [startS,List.mem_replicate] at hs; rw [hs.2]; rfl
  refine ⟨hR,(mendS_shp _).dag, ?_,by rw [hst]; exact h2,fun t _ => by rw [hst,hst], ?_,by rw [hst]; intro s hs; rw [hz s hs]; omega⟩
  · rw [hst]
    -- no task is done yet
    have h4:¬ hasS (startS key d).states 4=true:=fun e => by
      obtain ⟨s,hs,e⟩:=hasS_iff.1 e
      simp only [startS,List.mem_replicate] at hs; rw [hs.2] at e; cases e
    have hn3:∀ s∈mendL (startS key d).dag.tasks (startS key d).states (startS key d).states.length,s.is=0∨s.is=1:=mendL_all (p:=fun s => s.is=0∨s.is=1) (fun s hs => by
      unfold treadyS; split
      · exact .inr rfl
      · exact hs) (fun s hs => by simp only [startS,List.mem_replicate] at hs; rw [hs.2]; exact .inl rfl) _
    have hpos:=dag_pos hd
    have hl:0 < (mendL (startS key d).dag.tasks (startS key d).states (startS key d).states.length).length:=by rw [mendL_len,startS_len]; exact hpos
    have hall:¬ allS (mendL (startS key d).dag.tasks (startS key d).states (startS key d).states.length)=true:=fun e => by
      have:=List.all_eq_true.1 e _ (List.getElem_mem hl)
      have h01:=hn3 _ (List.getElem_mem hl)
      simp only [decide_eq_true_eq] at this
      omega
    unfold newS mendS
    rw [if_neg h4]
    simp only
    rw [if_neg hall]; rfl
  · rw [hst]
    show triedS (mendS (startS key d)).states=0
    rw [sumT_mend]
    simp [triedS,startS,zS]
def kk:Str:=[107]
theorem kind_at {w:Wd} {c:Cmd} (h:WR w):doS w c=kindW w c:=by unfold doS; rw [if_pos h]
def c8:C :=
  (.seq
 (.reg false [p (.box 2 (.v 0)),
 p (.mov (.k (.bool false)))] [(1,.v 1),(2,.r 1)])
 (.seq
 (.reg false [p (.load (some 2) (.v 2)),
 p (.build [.int .i64 0,.str [],.str [],.int .i64 0,.int .i64 0,.str [],.str [],.fsl .nil 4 []] [(0,1,.k (.int .i64 1)),(6,2,.r 0)]),
 p (.fad 0 (.v 2)),
 p (.load (none) (.r 0)),
 p (.build [.int .i64 0,.str [],.str [],.int .i64 0,.int .i64 0,.str [],.str [],.fsl .nil 4 []] [(0,1,.k (.int .i64 2)),(1,1,.k (.str [107])),(2,1,.r 0)]),
 p (.bsl 8 [.r 3,.r 0]),
 p (.call true (.k (.fn 23 [] [])) [.r 0]),
 p (.mov (.r 0)),
 p (.ext (.r 0) 0),
 p (.ext (.r 1) 1),
 p (.alloc 4 (.agg [.int .i64 0,.int .i64 0,.fsl .nil 2 [],.fsl .nil 5 []])),
 p (.store (some 4) (.r 0) (.r 2)),
 p (.mov (.r 2))] [(1,.v 1),(2,.v 2),(5,.r 2),(6,.r 0)])
 (.seq
 (.seq
 (.reg false [p (.mov (.v 6)),
 p (.len false (.r 0)),
 p (.bin .neq (.r 0) (.k (.int .i64 2))),
 p (.mov (.r 0)),
 ⟨.mov (.v 6),some (0,false),[]⟩,
 ⟨.iad 6 (.r 0) (.k (.int .i64 0)),some (1,false),[]⟩,
 ⟨.fad 0 (.r 0),some (2,false),[]⟩,
 ⟨.load (none) (.r 0),some (3,false),[]⟩,
 ⟨.bin .neq (.r 0) (.k (.int .i64 0)),some (4,false),[]⟩,
 p (.pick (.r 5) (.k (.bool true)) (.r 0)),
 p (.mov (.r 0)),
 ⟨.fad 3 (.v 5),some (0,false),[]⟩,
 ⟨.load (none) (.r 0),some (1,false),[]⟩,
 ⟨.len false (.r 0),some (2,false),[]⟩,
 ⟨.bin .neq (.r 0) (.k (.int .i64 1)),some (3,false),[]⟩,
 p (.pick (.r 4) (.k (.bool true)) (.r 0))] [(1,.v 1),(2,.v 2),(5,.v 5),(40,.r 0)])
 (.cond (.v 40)
 (.seq
 (.reg false [p (.call true (.k (.fn 16 [] [])) []),
 p (.mov (.r 0)),
 ⟨.fad 3 (.v 5),some (0,true),[]⟩,
 ⟨.load (none) (.r 0),some (1,true),[]⟩,
 ⟨.len false (.r 0),some (2,true),[]⟩,
 ⟨.bin .eql (.r 0) (.k (.int .i64 0)),some (3,true),[]⟩,
 p (.pick (.r 4) (.r 0) (.k (.bool false))),
 p (.mov (.r 0))] [(4,.r 0)])
 .ret)
 .skip))
 (.seq
 (.reg false [p (.mov (.k (.int .i64 0)))] [(1,.v 1),(2,.v 2),(5,.v 5),(7,.r 0)])
 (.seq
 (.seq
 (.reg false [p (.fad 1 (.v 2)),
 p (.load (none) (.r 0)),
 p (.len false (.r 0)),
 p (.mov (.k (.int .i64 0)))] [(1,.v 1),(5,.v 5),(7,.v 7),(49,.r 2),(50,.r 1),(51,.r 0)])
 (.block 0
 (.loop
 (.seq
 (.reg false [p (.bin .lss (.v 51) (.v 50))] [(1,.v 1),(5,.v 5),(7,.v 7),(49,.v 49),(50,.v 50),(51,.v 51),(52,.r 0)])
 (.seq
 (.cond (.v 52)
 .skip
 (.exit 0))
 (.seq
 (.block 1
 (.seq
 (.reg false [p (.iad 4 (.v 49) (.v 51)),
 p (.load (some 4) (.r 0)),
 p (.alloc 4 (.agg [.fsl .nil 1 [],.int .i64 0,.int .i64 0,.int .i64 0])),
 p (.store (some 4) (.r 0) (.r 1))] [(1,.v 1),(5,.v 5),(7,.v 7),(9,.r 1),(49,.v 49),(50,.v 50),(51,.v 51)])
 (.reg false [p (.mov (.v 7)),
 p (.fad 1 (.v 9)),
 p (.load (none) (.r 0)),
 p (.bin .add (.r 2) (.r 0)),
 p (.mov (.r 0))] [(1,.v 1),(5,.v 5),(7,.r 0),(49,.v 49),(50,.v 50),(51,.v 51)])))
 (.reg false [p (.bin .add (.v 51) (.k (.int .i64 1))),
 p (.mov (.r 0))] [(1,.v 1),(5,.v 5),(7,.v 7),(49,.v 49),(50,.v 50),(51,.r 0)])))))))
 (.frz
 (.seq
 (.seq
 (.reg false [p (.mov (.v 7)),
 p (.mov (.k (.int .i64 0)))] [(1,.v 1),(5,.v 5),(60,.r 1),(61,.r 0)])
 (.block 2
 (.loop
 (.seq
 (.reg false [p (.bin .lss (.v 61) (.v 60))] [(1,.v 1),(5,.v 5),(60,.v 60),(61,.v 61),(62,.r 0)])
 (.seq
 (.cond (.v 62)
 .skip
 (.exit 2))
 (.seq
 (.block 3
 (.seq
 (.reg false [p (.mov (.v 61)),
 p (.mov (.r 0))] [(1,.v 1),(5,.v 5),(10,.r 0),(60,.v 60),(61,.v 61)])
 (.seq
 (.reg false [p (.load (some 4) (.v 5)),
 p (.fad 0 (.v 5)),
 p (.load (none) (.r 0)),
 p (.bin .add (.r 0) (.k (.int .i64 2097152))),
 p (.build [.int .i64 0,.str [],.str [],.int .i64 0,.int .i64 0,.str [],.str [],.fsl .nil 4 []] [(0,1,.k (.int .i64 8)),(4,1,.r 0)]),
 p (.call true (.k (.fn 14 [] [])) [.r 4,.r 0]),
 p (.mov (.r 0)),
 p (.ext (.r 0) 0),
 p (.ext (.r 1) 1),
 p (.store (some 4) (.v 5) (.r 1))] [(1,.v 1),(5,.v 5),(10,.v 10),(60,.v 60),(61,.v 61)])
 (.seq
 (.reg false [p (.load (some 4) (.v 5)),
 p (.build [.int .i64 0,.str [],.str [],.int .i64 0,.int .i64 0,.str [],.str [],.fsl .nil 4 []] [(0,1,.k (.int .i64 3))]),
 p (.call true (.k (.fn 14 [] [])) [.r 1,.r 0]),
 p (.mov (.r 0)),
 p (.ext (.r 0) 0),
 p (.ext (.r 1) 1),
 p (.alloc 4 (.agg [.int .i64 0,.int .i64 0,.fsl .nil 2 [],.fsl .nil 5 []])),
 p (.alloc 6 (.agg [.int .i64 0,.str [],.int .i64 0,.int .i64 0,.int .i64 0,.fsl .nil 5 []])),
 p (.store (some 4) (.r 1) (.r 3)),
 p (.store (some 6) (.r 1) (.r 3))] [(1,.v 1),(5,.v 5),(10,.v 10),(11,.r 3),(12,.r 2),(60,.v 60),(61,.v 61)])
 (.seq
 (.seq
 (.reg false [p (.fad 0 (.v 12)),
 p (.load (none) (.r 0)),
 p (.bin .neq (.r 0) (.k (.int .i64 0))),
 p (.mov (.r 0)),
 ⟨.fad 1 (.v 12),some (0,false),[]⟩,
 ⟨.load (none) (.r 0),some (1,false),[]⟩,
 ⟨.bin .neq (.r 0) (.k (.str [107])),some (2,false),[]⟩,
 p (.pick (.r 3) (.k (.bool true)) (.r 0))] [(1,.v 1),(5,.v 5),(10,.v 10),(11,.v 11),(12,.v 12),(60,.v 60),(61,.v 61),(86,.r 0)])
 (.cond (.v 86)
 (.seq
 (.reg false [p (.mov (.k (.bool false)))] [(4,.r 0)])
 .ret)
 .skip))
 (.seq
 (.reg false [p (.load (some 4) (.v 11)),
 p (.store (some 4) (.v 5) (.r 0))] [(1,.v 1),(5,.v 5),(10,.v 10),(12,.v 12),(60,.v 60),(61,.v 61)])
 (.seq
 (.reg false [p (.mov (.k (.int .i64 0)))] [(1,.v 1),(5,.v 5),(10,.v 10),(12,.v 12),(13,.r 0),(60,.v 60),(61,.v 61)])
 (.seq
 (.seq
 (.reg false [p (.mov (.v 10)),
 p (.mov (.v 1)),
 p (.len false (.r 0)),
 p (.bin .lss (.r 2) (.r 0))] [(1,.v 1),(5,.v 5),(10,.v 10),(12,.v 12),(13,.v 13),(60,.v 60),(61,.v 61),(91,.r 0)])
 (.cond (.v 91)
 (.reg false [p (.mov (.v 1)),
 p (.mov (.v 10)),
 p (.iad 1 (.r 1) (.r 0)),
 p (.load (none) (.r 0)),
 p (.mov (.r 0))] [(1,.v 1),(5,.v 5),(12,.v 12),(13,.r 0),(60,.v 60),(61,.v 61)])
 .skip))
 (.seq
 (.reg false [p (.fad 3 (.v 12)),
 p (.load (none) (.r 0)),
 p (.build [.int .i64 0,.str [],.str [],.int .i64 0,.int .i64 0,.str [],.str [],.fsl .nil 4 []] [(0,1,.k (.int .i64 5)),(3,1,.r 0),(5,1,.k (.str [114]))]),
 p (.alloc 8 (.agg [.int .i64 0,.str [],.str [],.int .i64 0,.int .i64 0,.str [],.str [],.fsl .nil 4 []])),
 p (.store (some 8) (.r 0) (.r 1))] [(1,.v 1),(5,.v 5),(12,.v 12),(13,.v 13),(14,.r 1),(60,.v 60),(61,.v 61)])
 (.seq
 (.seq
 (.reg false [p (.mov (.v 13)),
 p (.bin .rem (.r 0) (.k (.int .i64 3))),
 p (.bin .add (.r 0) (.k (.int .i64 3))),
 p (.bin .rem (.r 0) (.k (.int .i64 3)))] [(1,.v 1),(5,.v 5),(12,.v 12),(14,.v 14),(60,.v 60),(61,.v 61),(102,.r 0)])
 (.block 4
 (.seq
 (.reg false [p (.bin .eql (.v 102) (.k (.int .i64 1))),
 p (.mov (.r 0))] [(1,.v 1),(5,.v 5),(12,.v 12),(14,.v 14),(60,.v 60),(61,.v 61),(102,.v 102),(103,.r 0)])
 (.cond (.v 103)
 (.reg false [p (.fad 0 (.v 14)),
 p (.store (none) (.r 0) (.k (.int .i64 6)))] [(1,.v 1),(5,.v 5),(12,.v 12),(14,.v 14),(60,.v 60),(61,.v 61)])
 (.seq
 (.reg false [p (.bin .eql (.v 102) (.k (.int .i64 2))),
 p (.mov (.r 0))] [(1,.v 1),(5,.v 5),(12,.v 12),(14,.v 14),(60,.v 60),(61,.v 61),(106,.r 0)])
 (.cond (.v 106)
 (.reg false [p (.fad 0 (.v 5)),
 p (.load (none) (.r 0)),
 p (.bin .add (.r 0) (.k (.int .i64 2097152))),
 p (.build [.int .i64 0,.str [],.str [],.int .i64 0,.int .i64 0,.str [],.str [],.fsl .nil 4 []] [(0,1,.k (.int .i64 8)),(4,1,.r 0)]),
 p (.store (some 8) (.v 14) (.r 0))] [(1,.v 1),(5,.v 5),(12,.v 12),(14,.v 14),(60,.v 60),(61,.v 61)])
 .skip))))))
 (.seq
 (.seq
 (.reg false [p (.load (some 4) (.v 5)),
 p (.load (some 8) (.v 14)),
 p (.call true (.k (.fn 14 [] [])) [.r 1,.r 0]),
 p (.mov (.r 0)),
 p (.ext (.r 0) 0),
 p (.ext (.r 1) 1),
 p (.store (some 4) (.v 5) (.r 1)),
 p (.store (some 6) (.v 12) (.r 1))] [(1,.v 1),(5,.v 5),(12,.v 12),(60,.v 60),(61,.v 61)])
 (.seq
 (.reg false [p (.fad 0 (.v 12)),
 p (.load (none) (.r 0)),
 p (.bin .neq (.r 0) (.k (.int .i64 0)))] [(1,.v 1),(5,.v 5),(12,.v 12),(60,.v 60),(61,.v 61),(120,.r 0)])
 (.cond (.v 120)
 (.seq
 (.reg false [p (.mov (.k (.bool false)))] [(4,.r 0)])
 .ret)
 .skip)))
 (.seq
 (.reg false [p (.load (some 4) (.v 5)),
 p (.build [.int .i64 0,.str [],.str [],.int .i64 0,.int .i64 0,.str [],.str [],.fsl .nil 4 []] [(0,1,.k (.int .i64 9)),(1,1,.k (.str [107]))]),
 p (.call true (.k (.fn 14 [] [])) [.r 1,.r 0]),
 p (.mov (.r 0)),
 p (.ext (.r 0) 0),
 p (.ext (.r 1) 1),
 p (.store (some 6) (.v 12) (.r 0))] [(1,.v 1),(5,.v 5),(12,.v 12),(60,.v 60),(61,.v 61)])
 (.seq
 (.reg false [p (.fad 0 (.v 12)),
 p (.load (none) (.r 0)),
 p (.bin .neq (.r 0) (.k (.int .i64 0))),
 p (.mov (.r 0)),
 ⟨.fad 4 (.v 12),some (0,false),[]⟩,
 ⟨.load (none) (.r 0),some (1,false),[]⟩,
 ⟨.bin .neq (.r 0) (.k (.int .i64 0)),some (2,false),[]⟩,
 p (.pick (.r 3) (.k (.bool true)) (.r 0))] [(1,.v 1),(5,.v 5),(12,.v 12),(60,.v 60),(61,.v 61),(134,.r 0)])
 (.cond (.v 134)
 (.seq
 (.reg false [p (.call true (.k (.fn 16 [] [])) []),
 p (.mov (.r 0)),
 ⟨.fad 0 (.v 12),some (0,true),[]⟩,
 ⟨.load (none) (.r 0),some (1,true),[]⟩,
 ⟨.bin .eql (.r 0) (.k (.int .i64 0)),some (2,true),[]⟩,
 p (.pick (.r 3) (.r 0) (.k (.bool false))),
 p (.mov (.r 0)),
 ⟨.fad 4 (.v 12),some (0,true),[]⟩,
 ⟨.load (none) (.r 0),some (1,true),[]⟩,
 ⟨.bin .eql (.r 0) (.k (.int .i64 1)),some (2,true),[]⟩,
 ⟨.mov (.r 0),some (3,true),[]⟩,
 ⟨.fad 4 (.v 12),some (0,false),[]⟩,
 ⟨.load (none) (.r 0),some (1,false),[]⟩,
 ⟨.bin .eql (.r 0) (.k (.int .i64 2)),some (2,false),[]⟩,
 ⟨.pick (.r 3) (.k (.bool true)) (.r 0),some (7,true),[]⟩,
 p (.pick (.r 8) (.r 0) (.k (.bool false))),
 p (.mov (.r 0))] [(4,.r 0)])
 .ret)
 .skip))))))))))))))
 (.reg false [p (.bin .add (.v 61) (.k (.int .i64 1))),
 p (.mov (.r 0))] [(1,.v 1),(5,.v 5),(60,.v 60),(61,.r 0)])))))))
 (.frz
 (.seq
 (.reg false [p (.mov (.k (.bool false)))] [(4,.r 0)])
 .ret)))))))))
def c5:C :=
  (.seq
 (.reg false [p (.mov (.k (.bool false)))] [(0,.v 0)])
 (.seq
 (.reg false [p (.alloc 4 (.agg [.int .i64 0,.int .i64 0,.fsl .nil 2 [],.fsl .nil 5 []]))] [(0,.v 0),(3,.r 0)])
 (.seq
 (.reg false [p (.mov (.k (.int .i64 0)))] [(0,.v 0),(3,.v 3),(4,.r 0)])
 (.seq
 (.reg false [p (.mkm),
 p (.mov (.r 0))] [(0,.v 0),(3,.v 3),(4,.v 4),(5,.r 0)])
 (.seq
 (.reg false [p (.mkm),
 p (.mov (.r 0))] [(0,.v 0),(3,.v 3),(4,.v 4),(5,.v 5),(6,.r 0)])
 (.seq
 (.seq
 (.reg false [p (.mov (.v 0)),
 p (.call true (.k (.fn 21 [] [])) [.r 0]),
 p (.len false (.r 0)),
 p (.mov (.k (.int .i64 0)))] [(3,.v 3),(4,.v 4),(5,.v 5),(6,.v 6),(24,.r 2),(25,.r 1),(26,.r 0)])
 (.block 0
 (.loop
 (.seq
 (.reg false [p (.bin .lss (.v 26) (.v 25))] [(3,.v 3),(4,.v 4),(5,.v 5),(6,.v 6),(24,.v 24),(25,.v 25),(26,.v 26),(27,.r 0)])
 (.seq
 (.cond (.v 27)
 .skip
 (.exit 0))
 (.cut
 (.block 1
 (.seq
 (.reg false [p (.iad 8 (.v 24) (.v 26)),
 p (.load (some 8) (.r 0)),
 p (.alloc 8 (.agg [.int .i64 0,.str [],.str [],.int .i64 0,.int .i64 0,.str [],.str [],.fsl .nil 4 []])),
 p (.store (some 8) (.r 0) (.r 1))] [(3,.v 3),(4,.v 4),(5,.v 5),(6,.v 6),(8,.r 1),(24,.v 24),(25,.v 25),(26,.v 26)])
 (.seq
 (.reg false [p (.load (some 4) (.v 3)),
 p (.load (some 8) (.v 8)),
 p (.call true (.k (.fn 14 [] [])) [.r 1,.r 0]),
 p (.mov (.r 0)),
 p (.ext (.r 0) 0),
 p (.ext (.r 1) 1),
 p (.alloc 4 (.agg [.int .i64 0,.int .i64 0,.fsl .nil 2 [],.fsl .nil 5 []])),
 p (.alloc 6 (.agg [.int .i64 0,.str [],.int .i64 0,.int .i64 0,.int .i64 0,.fsl .nil 5 []])),
 p (.store (some 4) (.r 1) (.r 3)),
 p (.store (some 6) (.r 1) (.r 3))] [(3,.v 3),(4,.v 4),(5,.v 5),(6,.v 6),(8,.v 8),(9,.r 3),(10,.r 2),(24,.v 24),(25,.v 25),(26,.v 26)])
 (.cut
 (.seq
 (.reg false [p (.fad 0 (.v 8)),
 p (.load (none) (.r 0)),
 p (.bin .eql (.r 0) (.k (.int .i64 3))),
 p (.mov (.r 0)),
 ⟨.fad 0 (.v 10),some (0,true),[]⟩,
 ⟨.load (none) (.r 0),some (1,true),[]⟩,
 ⟨.bin .eql (.r 0) (.k (.int .i64 0)),some (2,true),[]⟩,
 p (.pick (.r 3) (.r 0) (.k (.bool false)))] [(3,.v 3),(4,.v 4),(5,.v 5),(6,.v 6),(9,.v 9),(10,.v 10),(24,.v 24),(25,.v 25),(26,.v 26),(43,.r 0)])
 (.cond (.v 43)
 (.seq
 (.reg false [p (.fad 1 (.v 10)),
 p (.load (none) (.r 0)),
 p (.fad 2 (.v 10)),
 p (.load (none) (.r 0)),
 p (.build [.str [],.int .i64 0] [(0,1,.r 2),(1,1,.r 0)]),
 p (.alloc 2 (.agg [.str [],.int .i64 0])),
 p (.store (some 2) (.r 0) (.r 1))] [(3,.v 3),(4,.v 4),(5,.v 5),(6,.v 6),(9,.v 9),(10,.v 10),(11,.r 1),(24,.v 24),(25,.v 25),(26,.v 26)])
 (.seq
 (.reg true [p (.mov (.v 5)),
 p (.load (some 2) (.v 11)),
 p (.mlk false [1,0] (.int .i64 0) (.r 1) (.r 0)),
 p (.bin .add (.r 0) (.k (.int .i64 1))),
 p (.men [1,0] (.int .i64 0) (.r 3) (.r 2)),
 p (.ext (.r 0) 1),
 p (.mes (.r 5) (.r 0) (.r 2))] [(3,.v 3),(4,.v 4),(5,.v 5),(6,.v 6),(9,.v 9),(10,.v 10),(11,.v 11),(24,.v 24),(25,.v 25),(26,.v 26)])
 (.seq
 (.seq
 (.reg false [p (.mov (.v 6)),
 p (.load (some 2) (.v 11)),
 p (.mlk true [1,0] (.str []) (.r 1) (.r 0)),
 p (.mov (.r 0)),
 p (.ext (.r 0) 0),
 p (.ext (.r 1) 1),
 p (.mov (.r 1)),
 p (.mov (.r 1))] [(3,.v 3),(4,.v 4),(5,.v 5),(6,.v 6),(9,.v 9),(10,.v 10),(13,.r 0),(24,.v 24),(25,.v 25),(26,.v 26)])
 (.seq
 (.reg false [p (.mov (.v 13)),
 p (.mov (.r 0)),
 ⟨.fad 3 (.v 10),some (0,false),[]⟩,
 ⟨.load (none) (.r 0),some (1,false),[]⟩,
 ⟨.mov (.v 4),some (2,false),[]⟩,
 ⟨.bin .leq (.r 1) (.r 0),some (3,false),[]⟩,
 p (.pick (.r 4) (.k (.bool true)) (.r 0))] [(3,.v 3),(5,.v 5),(6,.v 6),(9,.v 9),(10,.v 10),(24,.v 24),(25,.v 25),(26,.v 26),(67,.r 0)])
 (.cond (.v 67)
 (.seq
 (.reg false [p (.mov (.k (.bool false)))] [(2,.r 0)])
 .ret)
 .skip)))
 (.reg false [p (.fad 3 (.v 10)),
 p (.load (none) (.r 0)),
 p (.mov (.r 0))] [(3,.v 3),(4,.r 0),(5,.v 5),(6,.v 6),(9,.v 9),(24,.v 24),(25,.v 25),(26,.v 26)]))))
 .skip))
 (.seq
 (.reg false [p (.load (some 4) (.v 9)),
 p (.store (some 4) (.v 3) (.r 0))] [(3,.v 3),(4,.v 4),(5,.v 5),(6,.v 6),(24,.v 24),(25,.v 25),(26,.v 26)])
 (.seq
 (.reg false [p (.fad 3 (.v 3)),
 p (.load (none) (.r 0)),
 p (.len false (.r 0)),
 p (.mov (.k (.int .i64 0)))] [(3,.v 3),(4,.v 4),(5,.v 5),(6,.v 6),(24,.v 24),(25,.v 25),(26,.v 26),(72,.r 2),(73,.r 1),(74,.r 0)])
 (.block 2
 (.loop
 (.seq
 (.reg false [p (.bin .lss (.v 74) (.v 73))] [(3,.v 3),(4,.v 4),(5,.v 5),(6,.v 6),(24,.v 24),(25,.v 25),(26,.v 26),(72,.v 72),(73,.v 73),(74,.v 74),(75,.r 0)])
 (.seq
 (.cond (.v 75)
 .skip
 (.exit 2))
 (.seq
 (.block 3
 (.seq
 (.reg false [p (.iad 5 (.v 72) (.v 74)),
 p (.load (some 5) (.r 0)),
 p (.alloc 5 (.agg [.str [],.str [],.fsl .nil 4 [],.int .i64 0,.fsl .nil 5 []])),
 p (.store (some 5) (.r 0) (.r 1))] [(3,.v 3),(4,.v 4),(5,.v 5),(6,.v 6),(15,.r 1),(24,.v 24),(25,.v 25),(26,.v 26),(72,.v 72),(73,.v 73),(74,.v 74)])
 (.seq
 (.seq
 (.reg false [p (.fad 4 (.v 15)),
 p (.load (none) (.r 0)),
 p (.len false (.r 0)),
 p (.fad 1 (.v 15)),
 p (.fad 1 (.r 0)),
 p (.load (none) (.r 0)),
 p (.len false (.r 0)),
 p (.bin .neq (.r 4) (.r 0))] [(3,.v 3),(4,.v 4),(5,.v 5),(6,.v 6),(15,.v 15),(24,.v 24),(25,.v 25),(26,.v 26),(72,.v 72),(73,.v 73),(74,.v 74),(85,.r 0)])
 (.cond (.v 85)
 (.seq
 (.reg false [p (.mov (.k (.bool false)))] [(2,.r 0)])
 .ret)
 .skip))
 (.seq
 (.reg false [p (.fad 4 (.v 15)),
 p (.load (none) (.r 0)),
 p (.len false (.r 0)),
 p (.mov (.k (.int .i64 0)))] [(3,.v 3),(4,.v 4),(5,.v 5),(6,.v 6),(15,.v 15),(24,.v 24),(25,.v 25),(26,.v 26),(72,.v 72),(73,.v 73),(74,.v 74),(87,.r 2),(88,.r 1),(89,.r 0)])
 (.block 4
 (.loop
 (.seq
 (.reg false [p (.bin .lss (.v 89) (.v 88))] [(3,.v 3),(4,.v 4),(5,.v 5),(6,.v 6),(15,.v 15),(24,.v 24),(25,.v 25),(26,.v 26),(72,.v 72),(73,.v 73),(74,.v 74),(87,.v 87),(88,.v 88),(89,.v 89),(90,.r 0)])
 (.seq
 (.cond (.v 90)
 .skip
 (.exit 4))
 (.cut
 (.block 5
 (.seq
 (.reg false [p (.mov (.v 89)),
 p (.iad 5 (.v 87) (.v 89)),
 p (.load (some 5) (.r 0)),
 p (.alloc 5 (.agg [.int .i64 0,.int .i64 0,.int .i64 0,.int .i64 0,.str []])),
 p (.mov (.r 3)),
 p (.store (some 5) (.r 1) (.r 2))] [(3,.v 3),(4,.v 4),(5,.v 5),(6,.v 6),(15,.v 15),(16,.r 1),(17,.r 2),(24,.v 24),(25,.v 25),(26,.v 26),(72,.v 72),(73,.v 73),(74,.v 74),(87,.v 87),(88,.v 88),(89,.v 89)])
 (.seq
 (.reg false [p (.fad 0 (.v 15)),
 p (.load (none) (.r 0)),
 p (.mov (.v 16)),
 p (.build [.str [],.int .i64 0] [(0,1,.r 1),(1,1,.r 0)]),
 p (.alloc 2 (.agg [.str [],.int .i64 0])),
 p (.store (some 2) (.r 0) (.r 1))] [(3,.v 3),(4,.v 4),(5,.v 5),(6,.v 6),(15,.v 15),(16,.v 16),(17,.v 17),(18,.r 1),(24,.v 24),(25,.v 25),(26,.v 26),(72,.v 72),(73,.v 73),(74,.v 74),(87,.v 87),(88,.v 88),(89,.v 89)])
 (.seq
 (.reg false [p (.mov (.v 6)),
 p (.load (some 2) (.v 18)),
 p (.mlk true [1,0] (.str []) (.r 1) (.r 0)),
 p (.mov (.r 0)),
 p (.ext (.r 0) 0),
 p (.ext (.r 1) 1),
 p (.mov (.r 1)),
 p (.mov (.r 1))] [(3,.v 3),(4,.v 4),(5,.v 5),(6,.v 6),(15,.v 15),(16,.v 16),(17,.v 17),(18,.v 18),(19,.r 1),(20,.r 0),(24,.v 24),(25,.v 25),(26,.v 26),(72,.v 72),(73,.v 73),(74,.v 74),(87,.v 87),(88,.v 88),(89,.v 89)])
 (.seq
 (.seq
 (.reg true [p (.mov (.v 20)),
 p (.mov (.r 0)),
 ⟨.fad 0 (.v 17),some (0,true),[]⟩,
 ⟨.load (none) (.r 0),some (1,true),[]⟩,
 ⟨.bin .neq (.r 0) (.k (.int .i64 3)),some (2,true),[]⟩,
 ⟨.mov (.r 0),some (3,true),[]⟩,
 ⟨.fad 4 (.v 17),some (0,false),[]⟩,
 ⟨.load (none) (.r 0),some (1,false),[]⟩,
 ⟨.mov (.v 19),some (2,false),[]⟩,
 ⟨.bin .neq (.r 1) (.r 0),some (3,false),[]⟩,
 ⟨.pick (.r 4) (.k (.bool true)) (.r 0),some (8,true),[]⟩,
 p (.pick (.r 9) (.r 0) (.k (.bool false))),
 p (.mov (.r 0)),
 ⟨.mov (.v 5),some (0,false),[]⟩,
 ⟨.load (some 2) (.v 18),some (1,false),[]⟩,
 ⟨.mlk false [1,0] (.int .i64 0) (.r 1) (.r 0),some (2,false),[]⟩,
 ⟨.fad 1 (.v 15),some (3,false),[]⟩,
 ⟨.fad 1 (.r 0),some (4,false),[]⟩,
 ⟨.load (none) (.r 0),some (5,false),[]⟩,
 ⟨.mov (.v 16),some (6,false),[]⟩,
 ⟨.iad 4 (.r 1) (.r 0),some (7,false),[]⟩,
 ⟨.fad 1 (.r 0),some (8,false),[]⟩,
 ⟨.load (none) (.r 0),some (9,false),[]⟩,
 ⟨.bin .gtr (.r 7) (.r 0),some (10,false),[]⟩,
 p (.pick (.r 11) (.k (.bool true)) (.r 0)),
 p (.mov (.r 0)),
 ⟨.mov (.v 5),some (0,false),[]⟩,
 ⟨.load (some 2) (.v 18),some (1,false),[]⟩,
 ⟨.mlk false [1,0] (.int .i64 0) (.r 1) (.r 0),some (2,false),[]⟩,
 ⟨.fad 1 (.v 17),some (3,false),[]⟩,
 ⟨.load (none) (.r 0),some (4,false),[]⟩,
 ⟨.bin .neq (.r 2) (.r 0),some (5,false),[]⟩,
 p (.pick (.r 6) (.k (.bool true)) (.r 0))] [(3,.v 3),(4,.v 4),(5,.v 5),(6,.v 6),(15,.v 15),(17,.v 17),(18,.v 18),(24,.v 24),(25,.v 25),(26,.v 26),(72,.v 72),(73,.v 73),(74,.v 74),(87,.v 87),(88,.v 88),(89,.v 89),(136,.r 0)])
 (.cond (.v 136)
 (.seq
 (.reg false [p (.mov (.k (.bool false)))] [(2,.r 0)])
 .ret)
 .skip))
 (.seq
 (.reg false [p (.fad 0 (.v 17)),
 p (.load (none) (.r 0)),
 p (.bin .eql (.r 0) (.k (.int .i64 3)))] [(3,.v 3),(4,.v 4),(5,.v 5),(6,.v 6),(15,.v 15),(17,.v 17),(18,.v 18),(24,.v 24),(25,.v 25),(26,.v 26),(72,.v 72),(73,.v 73),(74,.v 74),(87,.v 87),(88,.v 88),(89,.v 89),(139,.r 0)])
 (.cond (.v 139)
 (.reg false [p (.mov (.v 6)),
 p (.load (some 2) (.v 18)),
 p (.fad 4 (.v 17)),
 p (.load (none) (.r 0)),
 p (.mup [1,0] (.r 3) (.r 2) (.r 0))] [(3,.v 3),(4,.v 4),(5,.v 5),(6,.v 6),(15,.v 15),(24,.v 24),(25,.v 25),(26,.v 26),(72,.v 72),(73,.v 73),(74,.v 74),(87,.v 87),(88,.v 88),(89,.v 89)])
 .skip)))))))
 (.reg false [p (.bin .add (.v 89) (.k (.int .i64 1))),
 p (.mov (.r 0))] [(3,.v 3),(4,.v 4),(5,.v 5),(6,.v 6),(15,.v 15),(24,.v 24),(25,.v 25),(26,.v 26),(72,.v 72),(73,.v 73),(74,.v 74),(87,.v 87),(88,.v 88),(89,.r 0)]))))))))))
 (.frz
 (.reg false [p (.bin .add (.v 74) (.k (.int .i64 1))),
 p (.mov (.r 0))] [(3,.v 3),(4,.v 4),(5,.v 5),(6,.v 6),(24,.v 24),(25,.v 25),(26,.v 26),(72,.v 72),(73,.v 73),(74,.r 0)])))))))))))))
 (.frz
 (.reg false [p (.bin .add (.v 26) (.k (.int .i64 1))),
 p (.mov (.r 0))] [(3,.v 3),(4,.v 4),(5,.v 5),(6,.v 6),(24,.v 24),(25,.v 25),(26,.r 0)]))))))))
 (.frz
 (.seq
 (.reg false [p (.call true (.k (.fn 16 [] [])) []),
 p (.mov (.r 0))] [(2,.r 0)])
 .ret))))))))
def r5:List RV:=[.t 2]
theorem en5:EnP Tryz.prog 5 148 c5 r5:=mkEnP (by kernel_rfl) Tryz.func5 (by kernel_rfl) ⟨_,rfl,by kernel_rfl,by kernel_rfl⟩
section
theorem x_cut0 {P:Program} {a b:C} {σ:Sg} {H:Hp} {Q:QA} (h:evX P (.seq a b) σ H Q):evX P (.cut a b) σ H Q:=⟨fun σ' H' => evX P b σ' H' Q,h,fun _ _ h => h⟩
theorem pm_okc {β:Type} (f:β→V) (l:List (Pl×β)) (k:Str) (i:Int):keysOk [1,0] (V.agg [.str k,.int .i64 i]) (pmV f l)=True:=eq_true (pm_ok f (k,i) l)
theorem pm_cnt (l:List (Pl×Int)) (k:Str) (i:Int):(mget (pmV intV l) (V.agg [.str k,.int .i64 i])).getD (.int .i64 0)=.int .i64 (cntP l (k,i)):=by
  rw [show (V.agg [.str k,.int .i64 i])=plV (k,i) from rfl,pm_get,cntP]
  cases pget l (k,i)<;>rfl
theorem pm_res0 (l:List (Pl×Str)) (k:Str) (i:Int) (h:pget l (k,i)=none):mres true (mget (pmV V.str l) (V.agg [.str k,.int .i64 i])) (.str [])=.tup [.str [],.bool false]:=by
  rw [show (V.agg [.str k,.int .i64 i])=plV (k,i) from rfl,pm_get,h]; rfl
theorem pm_res1 (l:List (Pl×Str)) (k:Str) (i:Int) (t:Str) (h:pget l (k,i)=some t):mres true (mget (pmV V.str l) (V.agg [.str k,.int .i64 i])) (.str [])=.tup [.str t,.bool true]:=by
  rw [show (V.agg [.str k,.int .i64 i])=plV (k,i) from rfl,pm_get,h]; rfl
theorem pm_inc (l:List (Pl×Int)) (k:Str) (i:Int) (n0:V) (n:Int):mput (mset (pmV intV l) (V.agg [.str k,.int .i64 i]) n0) (mix (pmV intV l) (V.agg [.str k,.int .i64 i])) (.int .i64 n)=pmV intV (pset l (k,i) n):=by
  rw [mput_set]; exact pm_set intV (k,i) n l
theorem pm_note (l:List (Pl×Str)) (k:Str) (i:Int) (t:Str):mset (pmV V.str l) (V.agg [.str k,.int .i64 i]) (.str t)=pmV V.str (pset l (k,i) t):=pm_set V.str (k,i) t l
theorem mres_f (o:Option V) (z:V):mres false o z=o.getD z:=rfl
theorem mix_ok (l:List (V×V)) (k v:V):((0:Int)≤(mix l k:Int)∧(mix l k:Int).toNat < (mset l k v).length)=True:=eq_true ⟨by omega,by rw [Int.toNat_natCast]; exact mix_lt k v l⟩
theorem getC_wrs (w:Wd):getC none 3 (wdV w)=some (.fsl .loose 5 (mv rnV w.runs)):=rfl
theorem few_tried {w:Wd} (h:WR w) {r:Rn} (hm:r∈w.runs):r.states.length=r.dag.tasks.length∧r.states.length≤1000:=by
  have h2:=(h.runs r hm).2
  have:=(dag_okn h2.dag).1
  exact ⟨h2.len,by rw [h2.len]; omega⟩
open Classical in
set_option maxHeartbeats 2000000 in
theorem law_leases (l0:List Cmd) (hl0:l0.length≤4611686018427387904) (hd0:∀ c∈l0,okDagL c.dag):PCall Tryz.prog 5 [cmdsV l0] (.bool true):=by
  refine en5 (by simp) (by simp [closedL,cmdsV,V.closed,mv_closed cmdV_closed]) ?_
  have hsh:=law_short l0 hl0
  have hd:∀ c∈l0.take 60,okDagL c.dag:=fun c hc => hd0 c (List.mem_of_mem_take hc)
  have hl:(l0.take 60).length≤60:=by simp; omega
  generalize l0.take 60=l at hsh hd hl
  unfold cmdsV at hsh
  simp (maxSteps:=1000000) (disch:=omega) only [rg,gD,simprocAttr,c5,cmdsV]
  refine ⟨_,hsh, ?_⟩
  simp (maxSteps:=1000000) (disch:=omega) only [rg,gD,simprocAttr,mv_len]
  refine x_it l.length (fun k σ H => 3≤H.n∧∃ w last lm rm,WdM w∧(k=0→w=zW)∧Lv w last lm rm∧H.m 0=some (.arr 4 [wz k w])∧H.m 1=some (.mp (pmV intV lm))∧H.m 2=some (.mp (pmV V.str rm)) ∧
    σ=[(3,.ptr 0 0 0),(4,.int .i64 last),(5,.map 1),(6,.map 2),(24,.fsl .loose 8 (mv cmdV l)),(25,.int .i64 (l.length:Int)),(26,.int .i64 (k:Int))]) ⟨Nat.le_refl 3,zW,0,[],[],zW_M,fun _ => rfl,Lv.start,(by simp (disch:=omega) only [upd_eq,upd_ne,wo_0,wo_1,wo_2,wz,if_true]),(by simp (disch:=omega) only [upd_eq,upd_ne,wo_0,wo_1,wo_2,pmV,List.map_nil]),(by simp (disch:=omega) only [upd_eq,upd_ne,wo_0,wo_1,wo_2,pmV,List.map_nil]),rfl⟩ ?_
  rintro T k σ ⟨n,m⟩ hkk ⟨hn,w,last,lm,rm,hM,hz0,hv,e0,e1,e2,rfl⟩ hN hX hR
  simp only at hn e0 e1 e2
  by_cases hk:k < l.length
  case neg =>
    simp (maxSteps:=1000000) (disch:=omega) only [rg,gD,simprocAttr,show ¬ (k:Int) < l.length by omega]
    refine hX _ _ _ ?_
    simp (maxSteps:=1000000) (disch:=omega) only [rg,gD,simprocAttr]
    refine x_frz0 ?_
    simp (maxSteps:=1000000) (disch:=omega) only [rg,gD,simprocAttr]
    refine ⟨_,law_alive20, ?_⟩
    simp (maxSteps:=1000000) (disch:=omega) only [rg,gD,simprocAttr]
    (refine fin_x rfl ?_ ?_<;>simp [pack,lo,loL,V.closed,closedL,mv_closed])
  have hdk:=hd _ (List.getElem_mem hk)
  have hdo:PCall Tryz.prog 14 [wz k w,cmdV l[k]] (waV (doS w l[k])):=(world_do w l[k] hM.ok hdk).of_eq (by simp only [loL,wz_lo k _ hz0,cmdV_lo])
  have hM1:=do_M w l[k] hM hdk
  have hW1:=do_keeps l[k] hv.right
  have hgr:=(do_grow l[k] hv.right).2.1
  have hst:=kind_stp w l[k] hv.right
  rw [← kind_at hv.right] at hst
  obtain ⟨c,hc⟩:∃ c,c=l[k]:=⟨_,rfl⟩
  rw [← hc] at hdo hM1 hW1 hgr hst
  generalize doS w c=z at hdo hM1 hW1 hgr hst
  obtain ⟨x,a⟩:=z
  simp only at hM1 hW1 hgr hst
  unfold waV at hdo
  simp only at hdo
  have l0:(0:Nat)≠n:=by omega
  have l1:(1:Nat)≠n:=by omega
  have l2:(2:Nat)≠n:=by omega
  simp (maxSteps:=1000000) (disch:=omega) only [rg,gD,simprocAttr,show (k:Int) < l.length by omega]
  refine x_cut0 ?_
  simp (maxSteps:=1000000) (disch:=omega) only [rg,gD,simprocAttr,mv_get hk,Int.toNat_natCast,getC_cmd,setC_z8,e0,getC_wz,← hc]
  refine ⟨_,hdo, ?_⟩
  simp (maxSteps:=1000000) (disch:=omega) only [rg,gD,simprocAttr,setC_z4,setC_z6]
  have hLr:Lr x rm:=by
    by_cases q:c.kind=3∧a.why=0
    · obtain ⟨i,_,st,_⟩:=hst.1 q; exact (hv.lease st).2.2.2
    · exact (hv.other (hst.2 q)).2
  obtain ⟨M,hMd⟩:∃ M:Sg→Hp→Prop,∀ σ' H',M σ' H'↔∃ last' lm',Lc x lm'∧last'≤x.token∧n+3≤H'.n∧H'.m 0=some (.arr 4 [wz k w])∧H'.m (n+1)=some (.arr 4 [wdV x])∧H'.m 1=some (.mp (pmV intV lm'))∧H'.m 2=some (.mp (pmV V.str rm)) ∧
    find 3 σ'=some (.ptr 0 0 0)∧find 4 σ'=some (.int .i64 last')∧find 5 σ'=some (.map 1)∧find 6 σ'=some (.map 2)∧find 9 σ'=some (.ptr (n+1) 0 0) ∧
    find 24 σ'=some (.fsl .loose 8 (mv cmdV l))∧find 25 σ'=some (.int .i64 (l.length:Int))∧find 26 σ'=some (.int .i64 (k:Int)):=⟨_,fun _ _ => Iff.rfl⟩
  refine ⟨M, ?_, ?_⟩
  · by_cases q1:c.kind=3
    case neg =>
      simp (maxSteps:=1000000) (disch:=omega) only [rg,gD,simprocAttr,getC_cmd0,eq_false q1]
      obtain ⟨h1,_⟩:=hv.other (hst.2 fun h => q1 h.1)
      exact (hMd _ _).2 ⟨last,lm,h1,Int.le_trans hv.last hgr,by simp only []; omega,(by simp (disch:=omega) only [upd_eq,upd_ne,wo_0,wo_1,wo_2,e0]),(by simp (disch:=omega) only [upd_eq,upd_ne,wo_0,wo_1,wo_2]),(by simp (disch:=omega) only [upd_eq,upd_ne,wo_0,wo_1,wo_2,e1]),(by simp (disch:=omega) only [upd_eq,upd_ne,wo_0,wo_1,wo_2,e2]),rfl,rfl,rfl,rfl,rfl,rfl,rfl,rfl⟩
    by_cases q2:a.why=0
    case neg =>
      simp (maxSteps:=1000000) (disch:=omega) only [rg,gD,simprocAttr,getC_cmd0,eq_true q1,ansV,eq_false q2]
      obtain ⟨h1,_⟩:=hv.other (hst.2 fun h => q2 h.2)
      exact (hMd _ _).2 ⟨last,lm,h1,Int.le_trans hv.last hgr,by simp only []; omega,(by simp (disch:=omega) only [upd_eq,upd_ne,wo_0,wo_1,wo_2,e0]),(by simp (disch:=omega) only [upd_eq,upd_ne,wo_0,wo_1,wo_2]),(by simp (disch:=omega) only [upd_eq,upd_ne,wo_0,wo_1,wo_2,e1]),(by simp (disch:=omega) only [upd_eq,upd_ne,wo_0,wo_1,wo_2,e2]),rfl,rfl,rfl,rfl,rfl,rfl,rfl,rfl⟩
    obtain ⟨i,t1,st,t2,t3⟩:=hst.1 ⟨q1,q2⟩
    obtain ⟨b1,b2,b3,_⟩:=hv.lease st
    have w1:IntKind.wrap .i64 (cntP lm (a.key,(i:Int))+1)=cntP lm (a.key,(i:Int))+1:=wrap_i64 (by omega) (by omega)
    have hlast:¬ a.token≤last:=by have:=hv.last; omega
    simp (maxSteps:=1000000) (disch:=omega) only [rg,gD,simprocAttr,getC_cmd0,eq_true q1,ansV,eq_true q2,t1,e1,e2,pm_okc,mres_f,pm_cnt,w1,mix_ok,pm_inc,pm_res0 _ _ _ b2,hlast]
    exact ⟨mix_lt _ _ _,(hMd _ _).2 ⟨a.token,_,b3,by omega,by simp only []; omega,(by simp (disch:=omega) only [upd_eq,upd_ne,wo_0,wo_1,wo_2,e0]),(by simp (disch:=omega) only [upd_eq,upd_ne,wo_0,wo_1,wo_2]),(by simp (disch:=omega) only [upd_eq,upd_ne,wo_0,wo_1,wo_2]),(by simp (disch:=omega) only [upd_eq,upd_ne,wo_0,wo_1,wo_2,e2]),rfl,rfl,rfl,rfl,rfl,rfl,rfl,rfl⟩⟩
  · rintro σ' ⟨n',m'⟩ hm
    obtain ⟨last',lm',hc1,hc2,hn',f0,f9,f1,f2,s3,s4,s5,s6,s9,s24,s25,s26⟩:=(hMd _ _).1 hm
    simp only at hn' f0 f9 f1 f2
    clear hm hMd M e0 e1 e2 hdo
    have g1:(0:Nat)≠n':=by omega
    simp (maxSteps:=1000000) (disch:=omega) only [rg,gD,simprocAttr,s3,s4,s5,s6,s9,s24,s25,s26,f0,f9,getC_wd,setC_wz,getC_wrs,mv_len]
    refine x_it x.runs.length (fun q σ H => 3≤H.n∧∃ rm,Lr x rm∧Ln rm (x.runs.take q)∧H.m 0=some (.arr 4 [wdV x])∧H.m 1=some (.mp (pmV intV lm'))∧H.m 2=some (.mp (pmV V.str rm)) ∧
      σ=[(3,.ptr 0 0 0),(4,.int .i64 last'),(5,.map 1),(6,.map 2),(24,.fsl .loose 8 (mv cmdV l)),(25,.int .i64 (l.length:Int)),(26,.int .i64 (k:Int)),(72,.fsl .loose 5 (mv rnV x.runs)),(73,.int .i64 (x.runs.length:Int)),(74,.int .i64 (q:Int))])
      ⟨by simp only []; omega,rm,hLr,by simp [Ln],(by simp (disch:=omega) only [upd_eq,upd_ne,wo_0,wo_1,wo_2]),(by simp (disch:=omega) only [upd_eq,upd_ne,wo_0,wo_1,wo_2,f1]),(by simp (disch:=omega) only [upd_eq,upd_ne,wo_0,wo_1,wo_2,f2]),rfl⟩ ?_
    clear f0 f9 f1 f2 g1 hn' hLr
    rintro T1 q σ1 ⟨n1,m1⟩ hqq ⟨hn1,rm1,hr1,hl1,f0,f1,f2,rfl⟩ hN1 hX1 hR1
    simp only at hn1 f0 f1 f2
    by_cases hq:q < x.runs.length
    case neg =>
      simp (maxSteps:=1000000) (disch:=omega) only [rg,gD,simprocAttr,show ¬ (q:Int) < x.runs.length by omega]
      refine hX1 _ _ _ ?_
      simp (maxSteps:=1000000) (disch:=omega) only [rg,gD,simprocAttr]
      refine x_frz0 ?_
      simp (maxSteps:=1000000) (disch:=omega) only [rg,gD,simprocAttr]
      obtain rfl:q=x.runs.length:=by omega
      rw [List.take_length] at hl1
      exact hN _ _ hk ⟨hn1,x,last',lm',rm1,hM1,fun e => by omega,⟨hW1,hc1,hr1,hl1,hc2⟩,(by simp (disch:=omega) only [upd_eq,upd_ne,wo_0,wo_1,wo_2,f0,wz,if_false,Nat.succ_ne_zero]),f1,f2,rfl⟩
    obtain ⟨r,hrdef⟩:∃ r,r=x.runs[q]:=⟨_,rfl⟩
    have hnr:=hW1.nruns
    have hmem:r∈x.runs:=hrdef ▸ List.getElem_mem hq
    obtain ⟨hlen,hsm⟩:=few_tried hW1 hmem
    have j0:(0:Nat)≠n1:=by omega
    have j1:(1:Nat)≠n1:=by omega
    have j2:(2:Nat)≠n1:=by omega
    have hlenI:(r.states.length:Int)=r.dag.tasks.length:=by omega
    simp (maxSteps:=1000000) (disch:=omega) only [rg,gD,simprocAttr,show (q:Int) < x.runs.length by omega,mv_get hq,← hrdef,getC_runs,setC_rn0,Int.toNat_natCast,rnV,sttsV,tasksV,mv_len,hlenI]
    refine x_it r.states.length (fun i σ H => n1+1≤H.n∧∃ rm,Lr x rm∧Ln rm (x.runs.take q)∧(∀ i',i' < i→∀ s,r.states[i']?=some s→La rm r.key i' s)∧H.m 0=some (.arr 4 [wdV x])∧H.m 1=some (.mp (pmV intV lm'))∧H.m 2=some (.mp (pmV V.str rm)) ∧
      H.m n1=some (.arr 5 [rnV r]) ∧
      σ=[(3,.ptr 0 0 0),(4,.int .i64 last'),(5,.map 1),(6,.map 2),(15,.ptr n1 0 0),(24,.fsl .loose 8 (mv cmdV l)),(25,.int .i64 (l.length:Int)),(26,.int .i64 (k:Int)),(72,.fsl .loose 5 (mv rnV x.runs)),(73,.int .i64 (x.runs.length:Int)),(74,.int .i64 (q:Int)),
        (87,.fsl .loose 5 (mv sttV r.states)),(88,.int .i64 (r.states.length:Int)),(89,.int .i64 (i:Int))])
      ⟨by simp only []; omega,rm1,hr1,hl1,fun i' h => by omega,(by simp (disch:=omega) only [upd_eq,upd_ne,wo_0,wo_1,wo_2,f0]),(by simp (disch:=omega) only [upd_eq,upd_ne,wo_0,wo_1,wo_2,f1]),(by simp (disch:=omega) only [upd_eq,upd_ne,wo_0,wo_1,wo_2,f2]),(by simp (disch:=omega) only [upd_eq,upd_ne,wo_0,wo_1,wo_2,rnV,sttsV,tasksV]),by simp only [hlenI]; rfl⟩ ?_
    clear f0 f1 f2 hr1 hl1
    rintro T2 i σ2 ⟨n2,m2⟩ hii ⟨hn2,rm2,hr2,hl2,hp2,f0,f1,f2,f3,rfl⟩ hN2 hX2 hR2
    simp only at hn2 f0 f1 f2 f3
    by_cases hi:i < r.states.length
    case neg =>
      simp (maxSteps:=1000000) (disch:=omega) only [rg,gD,simprocAttr,show ¬ (i:Int) < r.states.length by omega]
      refine hX2 _ _ _ ?_
      simp (maxSteps:=1000000) (disch:=omega) only [rg,gD,simprocAttr]
      refine x_frz0 ?_
      simp (maxSteps:=1000000) (disch:=omega) only [rg,gD,simprocAttr]
      obtain rfl:i=r.states.length:=by omega
      refine hN1 _ _ hq ⟨by show 3≤n2; omega,rm2,hr2,fun r' hr' i' s hs => ?_,f0,f1,f2,rfl⟩
      rw [List.take_succ_eq_append_getElem hq,← hrdef] at hr'
      rcases List.mem_append.1 hr' with h | h
      · exact hl2 r' h i' s hs
      · simp at h; subst h
        exact hp2 i' (List.getElem?_eq_some_iff.1 hs).1 s hs
    have hi2:i < r.dag.tasks.length:=by omega
    obtain ⟨a1,a2,a3⟩:=task_asked hW1 hc1 hr2 hmem hi hi2
    have hat:AtR x.runs r.key i r.states[i]:=(at_mem hW1.rruns hmem).2 (List.getElem?_eq_getElem hi)
    obtain ⟨s,hs⟩:∃ s,s=r.states[i]:=⟨_,rfl⟩
    obtain ⟨t,ht⟩:∃ t,t=r.dag.tasks[i]:=⟨_,rfl⟩
    rw [← hs] at a1 a2 a3 hat
    rw [← ht] at a3
    have k0:(0:Nat)≠n2:=by omega
    have k1:(1:Nat)≠n2:=by omega
    have k2:(2:Nat)≠n2:=by omega
    have k3:n1≠n2:=by omega
    have a3':¬ t.tries < s.tried:=by omega
    have step:∀ rm3,La rm3 r.key i s→(∀ (k':Str) (i':Nat) (s':Stt),AtR x.runs k' i' s'→La rm2 k' i' s'→La rm3 k' i' s') →
        Ln rm3 (x.runs.take q)∧∀ i',i' < i+1→∀ s,r.states[i']?=some s→La rm3 r.key i' s:=fun rm3 h1 h2 => by
      refine ⟨fun r' hr' i' s' hs' => ?_,fun i' hi' s' hs' => ?_⟩
      · exact h2 _ _ _ ⟨r',List.mem_of_mem_take hr',rfl,hs'⟩ (hl2 r' hr' i' s' hs')
      · by_cases e:i'=i
        · subst e
          have:s'=s:=by rw [hs]; exact (Option.some.inj ((List.getElem?_eq_getElem hi).symm.trans hs')).symm
          rw [this]; exact h1
        · exact h2 _ _ _ ⟨r,hmem,rfl,hs'⟩ (hp2 i' (by omega) s' hs')
    cases hg:pget rm2 (r.key,(i:Int)) with
    | none =>
      simp (maxSteps:=1000000) (disch:=omega) only [rg,gD,simprocAttr,show (i:Int) < r.states.length by omega]
      refine x_cut0 ?_
      simp (maxSteps:=1000000) (disch:=omega) only [rg,gD,simprocAttr,mv_get hi,← hs,f3,rnV,sttV,Int.toNat_natCast,f1,f2,pm_okc,pm_res0 _ _ _ hg,mres_f,pm_cnt,tasksV,mv_get hi2,← ht,taskV,a2,a3']
      refine ⟨fun h3 => ?_,fun h3 => ?_⟩
      · obtain ⟨p1,p2⟩:=step (pset rm2 (r.key,(i:Int)) s.result) (La.self _ _ _ _) (fun k' i' s' h1 h2 => La.note hW1 hat h1 h2)
        exact hN2 _ _ hi ⟨by show n1+1≤n2+2; omega,_,hr2.note hat h3,p1,p2,(by simp (disch:=omega) only [upd_eq,upd_ne,wo_0,wo_1,wo_2,f0]),(by simp (disch:=omega) only [upd_eq,upd_ne,wo_0,wo_1,wo_2,f1]),(by simp (disch:=omega) only [upd_eq,upd_ne,wo_0,wo_1,wo_2,pm_note]),(by simp (disch:=omega) only [upd_eq,upd_ne,wo_0,wo_1,wo_2,f3,rnV,sttsV,tasksV]),rfl⟩
      · obtain ⟨p1,p2⟩:=step rm2 (fun h => absurd h h3) (fun k' i' s' h1 h2 => h2)
        exact hN2 _ _ hi ⟨by show n1+1≤n2+2; omega,rm2,hr2,p1,p2,(by simp (disch:=omega) only [upd_eq,upd_ne,wo_0,wo_1,wo_2,f0]),(by simp (disch:=omega) only [upd_eq,upd_ne,wo_0,wo_1,wo_2,f1]),(by simp (disch:=omega) only [upd_eq,upd_ne,wo_0,wo_1,wo_2,f2]),(by simp (disch:=omega) only [upd_eq,upd_ne,wo_0,wo_1,wo_2,f3,rnV,sttsV,tasksV]),rfl⟩
    | some tx =>
      obtain ⟨c1,c2⟩:=a1 tx hg
      simp (maxSteps:=1000000) (disch:=omega) only [rg,gD,simprocAttr,show (i:Int) < r.states.length by omega]
      refine x_cut0 ?_
      simp (maxSteps:=1000000) (disch:=omega) only [rg,gD,simprocAttr,mv_get hi,← hs,f3,rnV,sttV,Int.toNat_natCast,f1,f2,pm_okc,pm_res1 _ _ _ _ hg,mres_f,pm_cnt,tasksV,mv_get hi2,← ht,taskV,a2,a3',eq_true c1,c2]
      obtain ⟨p1,p2⟩:=step (pset rm2 (r.key,(i:Int)) s.result) (La.self _ _ _ _) (fun k' i' s' h1 h2 => La.note hW1 hat h1 h2)
      rw [c2] at p1 p2
      exact hN2 _ _ hi ⟨by show n1+1≤n2+2; omega,_,c2 ▸ hr2.note hat c1,p1,p2,(by simp (disch:=omega) only [upd_eq,upd_ne,wo_0,wo_1,wo_2,f0]),(by simp (disch:=omega) only [upd_eq,upd_ne,wo_0,wo_1,wo_2,f1]),(by simp (disch:=omega) only [upd_eq,upd_ne,wo_0,wo_1,wo_2,pm_note]),(by simp (disch:=omega) only [upd_eq,upd_ne,wo_0,wo_1,wo_2,f3,rnV,sttsV,tasksV]),rfl⟩
end
end Go.Proofs.YtkdeckmglbnfbaaGreat.Ev
