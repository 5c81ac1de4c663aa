/-
  Part 4 of what the proof of the statement ScriptPrints leans on: the evaluator, the functions in compact form, and what they answer.
-/
import Derived.Test.YtnglmdheiabdcaaDoorM3
import Derived.Test.YtnglmdheiabdcaaDoorProg
import Derived.KernelRfl
import Derived.WalkKit
import Derived.LoopTactic
import Derived.Laws.RangeString
import Derived.Laws.RangeAny
import Derived.Lib.ItoaNum
import Derived.Lib.Join
import Derived.Shelf.Strconv.Itoa3
import Derived.Shelf.Strings.Builder1
set_option linter.unusedSimpArgs false
set_option linter.unusedVariables false
set_option maxRecDepth 10000
namespace Go.Proofs.YtnglmdheiabdcaaDoor.Ev
open Go
/-! Alike. -/
theorem fSame_ints (l l':List Int) (hl:l.length≤4611686018427387904) (hl':l'.length≤4611686018427387904):PCall Tryd.prog 70 [.fsl .loose 1 (vI l),.fsl .loose 1 (vI l')] (.bool (decide (l=l'))):=by
  refine en70 (by simp) (by simp [closedL,V.closed,vI_closed]) ?_
  simp (maxSteps:=1000000) (disch:=omega) only [rg,gD,simprocAttr,c70,vI_len]
  by_cases c:l.length=l'.length
  case neg =>
    simp (maxSteps:=1000000) (disch:=omega) only [rg,gD,simprocAttr,show ¬ (l.length:Int)=l'.length by omega]
    (refine fin_x rfl ?_ ?_<;>simp [pack,lo,loL,V.closed,closedL,mv_closed,decide_eq_false (fun e:l=l' => c (by rw [e]))])
  simp (maxSteps:=1000000) (disch:=omega) only [rg,gD,simprocAttr,show (l.length:Int)=l'.length by omega]
  refine x_itp l.length (fun i => l=l'↔l.drop i=l'.drop i) (fun i => [(0,.fsl .loose 1 (vI l)),(1,.fsl .loose 1 (vI l')),(12,.int .i64 l.length),(13,.int .i64 i)]) (by simp) (by simp [c]) ?_
  intro T i hi hs hN hX hR
  simp (maxSteps:=1000000) (disch:=omega) only [rg,gD,simprocAttr]
  refine ⟨fun h => ?_,fun h => ?_⟩
  · have i1:i < l.length:=by omega
    have i2:i < l'.length:=by omega
    rw [List.drop_eq_getElem_cons i1,List.drop_eq_getElem_cons i2,List.cons.injEq] at hs
    simp (maxSteps:=1000000) (disch:=omega) only [rg,gD,simprocAttr,vI_get]
    by_cases he:l[i]=l'[i]
    case neg =>
      simp (maxSteps:=1000000) (disch:=omega) only [rg,gD,simprocAttr,he]
      try refine ⟨by simp [compat,disj,nthL], ?_⟩
      refine hR _ _ ?_
      simp (maxSteps:=1000000) (disch:=omega) only [rg,gD,simprocAttr]
      (refine fin_x rfl ?_ ?_<;>simp [pack,lo,loL,V.closed,closedL,mv_closed,decide_eq_false (fun e:l=l' => he (hs.1 e).1)])
    · simp (maxSteps:=1000000) (disch:=omega) only [rg,gD,simprocAttr,he]
      try refine ⟨by simp [compat,disj,nthL], ?_⟩
      exact hN _ i1 (hs.trans (and_iff_right he)) rfl
  · obtain rfl:i=l.length:=by omega
    refine hX _ _ _ ?_
    simp (maxSteps:=1000000) (disch:=omega) only [rg,gD,simprocAttr]
    refine x_frz0 ?_
    simp (maxSteps:=1000000) (disch:=omega) only [rg,gD,simprocAttr]
    rw [List.drop_length,c,List.drop_length] at hs
    (refine fin_x rfl ?_ ?_<;>simp [pack,lo,loL,V.closed,closedL,mv_closed,decide_eq_true (hs.2 rfl)])
def fTaskEq (a b:Task):Prop:=a.needs=b.needs∧a.tries=b.tries∧a.wait=b.wait∧a.lease=b.lease
instance (a b:Task):Decidable (fTaskEq a b):=by unfold fTaskEq; infer_instance
theorem fTaskEq_eq {a b:Task}:fTaskEq a b↔a=b:=by
  obtain ⟨a1,a2,a3,a4⟩:=a
  obtain ⟨b1,b2,b3,b4⟩:=b
  simp [fTaskEq]
instance:DecidableEq Task:=fun a b => decidable_of_iff _ fTaskEq_eq
theorem fDag_ext {a b:Dag}:(a=b)↔(a.name=b.name∧a.tasks=b.tasks):=by
  obtain ⟨a1,a2⟩:=a
  obtain ⟨b1,b2⟩:=b
  simp
instance:DecidableEq Dag:=fun a b => decidable_of_iff _ fDag_ext.symm
def fOkDagL (d:Dag):Prop:=d.tasks.length≤4611686018427387904∧∀ t∈d.tasks,t.needs.length≤4611686018427387904
theorem fLike_dag (a b:Dag) (ha:fOkDagL a) (hb:fOkDagL b):PCall Tryd.prog 46 [dagV a,dagV b] (.bool (decide (a=b))):=by
  refine en46 (by simp) (by simp [closedL,dagV_closed]) ?_
  simp (maxSteps:=1000000) (disch:=omega) only [rg,gD,simprocAttr,c46,dagV,tasksV]
  by_cases c1:a.name=b.name
  case neg =>
    simp (maxSteps:=1000000) (disch:=omega) only [rg,gD,simprocAttr,c1]
    (refine fin_x rfl ?_ ?_<;>simp [pack,lo,loL,V.closed,closedL,mv_closed,decide_eq_false (fun e:a=b => c1 (by rw [e]))])
  by_cases c:a.tasks.length=b.tasks.length
  case neg =>
    simp (maxSteps:=1000000) (disch:=omega) only [rg,gD,simprocAttr,c1,show ¬ (a.tasks.length:Int)=b.tasks.length by omega]
    (refine fin_x rfl ?_ ?_<;>simp [pack,lo,loL,V.closed,closedL,mv_closed,decide_eq_false (fun e:a=b => c (by rw [e]))])
  simp (maxSteps:=1000000) (disch:=omega) only [rg,gD,simprocAttr,c1,show (a.tasks.length:Int)=b.tasks.length by omega]
  refine x_it a.tasks.length (fun i σ H => 2≤H.n∧H.m 1=some (.arr 2 [.agg [.str b.name,.fsl .loose 4 (mv taskV b.tasks)]])∧(a=b↔a.tasks.drop i=b.tasks.drop i)∧σ=[(3,.ptr 1 0 0),(23,tasksV a.tasks),(24,.int .i64 a.tasks.length),(25,.int .i64 i)]) ⟨Nat.le_refl 2,(by simp (disch:=omega) only [upd_eq,upd_ne,wo_0,wo_1,wo_2]),by simp [fDag_ext,c1],by simp [tasksV,c]⟩ ?_
  rintro T i σ ⟨q,m⟩ hi ⟨hq,e1,hs,rfl⟩ hN hX hR
  simp only at hq e1
  have ha1:=ha.1
  simp (maxSteps:=1000000) (disch:=omega) only [rg,gD,simprocAttr,tasksV]
  refine ⟨fun h => ?_,fun h => ?_⟩
  · have i1:i < a.tasks.length:=by omega
    have i2:i < b.tasks.length:=by omega
    have hq1:1≠q:=by omega
    have hq2:1≠q+1:=by omega
    rw [List.drop_eq_getElem_cons i1,List.drop_eq_getElem_cons i2,List.cons.injEq] at hs
    have ks:=fSame_ints a.tasks[i].needs b.tasks[i].needs (ha.2 _ (List.getElem_mem i1)) (hb.2 _ (List.getElem_mem i2))
    simp (maxSteps:=1000000) (disch:=omega) only [rg,gD,simprocAttr,taskV,e1,vI_len,show (a.tasks.length:Int)=b.tasks.length by omega]
    refine ⟨_,ks, ?_⟩
    by_cases d1:a.tasks[i].needs=b.tasks[i].needs
    case neg =>
      simp (maxSteps:=1000000) (disch:=omega) only [rg,gD,simprocAttr,decide_eq_false d1]
      refine hR _ _ ?_
      simp (maxSteps:=1000000) (disch:=omega) only [rg,gD,simprocAttr]
      (refine fin_x rfl ?_ ?_<;>simp [pack,lo,loL,V.closed,closedL,mv_closed,decide_eq_false (fun e:a=b => d1 (by rw [(hs.1 e).1]))])
    by_cases d2:a.tasks[i].tries=b.tasks[i].tries
    case neg =>
      simp (maxSteps:=1000000) (disch:=omega) only [rg,gD,simprocAttr,decide_eq_true d1,d2]
      refine hR _ _ ?_
      simp (maxSteps:=1000000) (disch:=omega) only [rg,gD,simprocAttr]
      (refine fin_x rfl ?_ ?_<;>simp [pack,lo,loL,V.closed,closedL,mv_closed,decide_eq_false (fun e:a=b => d2 (by rw [(hs.1 e).1]))])
    by_cases d3:a.tasks[i].wait=b.tasks[i].wait
    case neg =>
      simp (maxSteps:=1000000) (disch:=omega) only [rg,gD,simprocAttr,decide_eq_true d1,d2,d3]
      refine hR _ _ ?_
      simp (maxSteps:=1000000) (disch:=omega) only [rg,gD,simprocAttr]
      (refine fin_x rfl ?_ ?_<;>simp [pack,lo,loL,V.closed,closedL,mv_closed,decide_eq_false (fun e:a=b => d3 (by rw [(hs.1 e).1]))])
    by_cases d4:a.tasks[i].lease=b.tasks[i].lease
    case neg =>
      simp (maxSteps:=1000000) (disch:=omega) only [rg,gD,simprocAttr,decide_eq_true d1,d2,d3,d4]
      refine hR _ _ ?_
      simp (maxSteps:=1000000) (disch:=omega) only [rg,gD,simprocAttr]
      (refine fin_x rfl ?_ ?_<;>simp [pack,lo,loL,V.closed,closedL,mv_closed,decide_eq_false (fun e:a=b => d4 (by rw [(hs.1 e).1]))])
    simp (maxSteps:=1000000) (disch:=omega) only [rg,gD,simprocAttr,decide_eq_true d1,d2,d3,d4]
    refine hN _ _ i1 ⟨by show 2≤q+1+1; omega,(by simp (disch:=omega) only [upd_eq,upd_ne,wo_0,wo_1,wo_2,e1]),hs.trans (and_iff_right (fTaskEq_eq.1 ⟨d1,d2,d3,d4⟩)),by simp [tasksV,c]⟩
  · obtain rfl:i=a.tasks.length:=by omega
    refine hX _ _ _ ?_
    simp (maxSteps:=1000000) (disch:=omega) only [rg,gD,simprocAttr]
    refine x_frz0 ?_
    simp (maxSteps:=1000000) (disch:=omega) only [rg,gD,simprocAttr]
    rw [List.drop_length,c,List.drop_length] at hs
    (refine fin_x rfl ?_ ?_<;>simp [pack,lo,loL,V.closed,closedL,mv_closed,decide_eq_true (hs.2 rfl)])
theorem cmd_ext {a b:Cmd}:(a=b)↔(a.kind=b.kind∧a.key=b.key∧a.name=b.name∧a.token=b.token∧a.time=b.time∧a.text=b.text∧a.dag=b.dag):=by
  obtain ⟨a1,a2,a3,a4,a5,a6,a7⟩:=a
  obtain ⟨b1,b2,b3,b4,b5,b6,b7⟩:=b
  simp
instance:DecidableEq Cmd:=fun a b => decidable_of_iff _ cmd_ext.symm
theorem like_cmd (a b:Cmd) (ha:fOkDagL a.dag) (hb:fOkDagL b.dag):PCall Tryd.prog 34 [cmdV a,cmdV b] (.bool (decide (a=b))):=by
  refine en34 (by simp) (by simp [closedL,cmdV_closed]) ?_
  have kd:=fLike_dag a.dag b.dag ha hb
  unfold dagV tasksV at kd
  by_cases c0:a.kind=b.kind
  case neg =>
    simp (maxSteps:=1000000) (disch:=omega) only [rg,gD,simprocAttr,c34,cmdV,tasksV,c0]
    (refine fin_x rfl ?_ ?_<;>simp [pack,lo,loL,V.closed,closedL,mv_closed,decide_eq_false (fun e:a=b => c0 (by rw [e]))])
  by_cases c1:a.key=b.key
  case neg =>
    simp (maxSteps:=1000000) (disch:=omega) only [rg,gD,simprocAttr,c34,cmdV,tasksV,c0,c1]
    (refine fin_x rfl ?_ ?_<;>simp [pack,lo,loL,V.closed,closedL,mv_closed,decide_eq_false (fun e:a=b => c1 (by rw [e]))])
  by_cases c2:a.name=b.name
  case neg =>
    simp (maxSteps:=1000000) (disch:=omega) only [rg,gD,simprocAttr,c34,cmdV,tasksV,c0,c1,c2]
    (refine fin_x rfl ?_ ?_<;>simp [pack,lo,loL,V.closed,closedL,mv_closed,decide_eq_false (fun e:a=b => c2 (by rw [e]))])
  by_cases c3:a.token=b.token
  case neg =>
    simp (maxSteps:=1000000) (disch:=omega) only [rg,gD,simprocAttr,c34,cmdV,tasksV,c0,c1,c2,c3]
    (refine fin_x rfl ?_ ?_<;>simp [pack,lo,loL,V.closed,closedL,mv_closed,decide_eq_false (fun e:a=b => c3 (by rw [e]))])
  by_cases c4:a.time=b.time
  case neg =>
    simp (maxSteps:=1000000) (disch:=omega) only [rg,gD,simprocAttr,c34,cmdV,tasksV,c0,c1,c2,c3,c4]
    (refine fin_x rfl ?_ ?_<;>simp [pack,lo,loL,V.closed,closedL,mv_closed,decide_eq_false (fun e:a=b => c4 (by rw [e]))])
  by_cases c5:a.text=b.text
  case neg =>
    simp (maxSteps:=1000000) (disch:=omega) only [rg,gD,simprocAttr,c34,cmdV,tasksV,c0,c1,c2,c3,c4,c5]
    (refine fin_x rfl ?_ ?_<;>simp [pack,lo,loL,V.closed,closedL,mv_closed,decide_eq_false (fun e:a=b => c5 (by rw [e]))])
  simp (maxSteps:=1000000) (disch:=omega) only [rg,gD,simprocAttr,c34,cmdV,tasksV,c0,c1,c2,c3,c4,c5]
  refine ⟨_,kd, ?_⟩
  simp (maxSteps:=1000000) (disch:=omega) only [rg,gD,simprocAttr]
  have:decide (a=b)=decide (a.dag=b.dag):=by rw [decide_eq_decide,cmd_ext]; simp [c0,c1,c2,c3,c4,c5]
  (refine fin_x rfl ?_ ?_<;>simp [pack,lo,loL,V.closed,closedL,mv_closed,this])
section
open Go Go.RowKit
def lowB (b:UInt8):Bool:=decide (97≤b.toNat∧b.toNat≤122)
def nameB (s:Str):Bool:=decide (1≤s.length∧s.length≤16) && s.all lowB
def headB (s:ByteArray) (pos:Nat):Prop:=∀ j,j < pos→∀ b,s.data.toList[j]?=some b→lowB b=true
theorem headB_step {s:ByteArray} {pos:Nat} (h:pos < s.size) (h1:¬ ((Utf8.decode s pos).1 < 97)) (h2:¬ (122 < (Utf8.decode s pos).1)) (hh:headB s pos):headB s (pos+(Utf8.decode s pos).2)∧(Utf8.decode s pos).2=1:=by
  have ha:(s[pos]'h).toNat < 128:=by
    rcases Nat.lt_or_ge (s[pos]'h).toNat 128 with h' | h'
    · exact h'
    · have:=(decode_high s pos h h').1; omega
  rw [decode_ascii s pos h ha] at h1 h2 ⊢
  simp only at h1 h2 ⊢
  refine ⟨fun j hj b hb => ?_,by simp⟩
  by_cases e:j=pos
  · subst e
    have:s.data.toList[j]?=some (s[j]'h):=by
      simp only [Array.getElem?_toList]
      exact Array.getElem?_eq_getElem h
    rw [this] at hb; simp at hb; subst hb
    simp only [lowB,decide_eq_true_eq]; omega
  · exact hh j (by omega) b hb
theorem headB_stop {s:ByteArray} {pos:Nat} (h:pos < s.size) (h1:(Utf8.decode s pos).1 < 97∨122 < (Utf8.decode s pos).1):s.data.toList.all lowB=false:=by
  rw [List.all_eq_false]
  refine ⟨s[pos]'h, ?_, ?_⟩
  · have h':pos < s.data.toList.length:=by rw [Array.length_toList]; exact h
    exact (List.getElem_mem h':s.data.toList[pos]∈s.data.toList)
  · intro hl
    simp only [lowB,decide_eq_true_eq] at hl
    rw [decode_ascii s pos h (by omega)] at h1
    simp only at h1; omega
theorem headB_all {s:ByteArray} {pos:Nat} (h:¬ pos < s.size) (hh:headB s pos):s.data.toList.all lowB=true:=by
  rw [List.all_eq_true]
  intro b hb
  obtain ⟨j,hj⟩:=List.mem_iff_getElem?.1 hb
  have:=(List.getElem?_eq_some_iff.1 hj).1
  exact hh j (by simp only [Array.length_toList] at this; simp only [ByteArray.size] at h; omega) b hj
set_option maxRecDepth 1000000 in
theorem name_walk (s:ByteArray) (w:World) :
    Calls Tryd.prog 40 #[.string s] w fun e w' => e=.returned (.bool (nameB s.data.toList))∧Below w.heap.size w w':=by
  have hsz:s.data.toList.length=s.size:=by rw [Array.length_toList]; rfl
  have bel:∀ pos,Below w.heap.size w (w.iter s pos):=fun pos => (Below.refl _ w).alloc (Nat.le_refl _) _
  go_enter Tryd.func40,Tryd.ntmps40
  by_cases c1:(s.size:Int) < 1
  · go_wp2
    go_ret
    exact ⟨by rw [nameB,hsz,decide_eq_false (by omega)]; rfl,.refl _ _⟩
  by_cases c2:(16:Int) < s.size
  · go_wp2
    go_ret
    exact ⟨by rw [nameB,hsz,decide_eq_false (by omega)]; rfl,.refl _ _⟩
  have hn:nameB s.data.toList=s.data.toList.all lowB:=by rw [nameB,hsz,decide_eq_true (by omega),Bool.true_and]
  go_wp2
  go_loopw [] (fun w' => ∃ pos:Nat,w'=w.iter s pos∧headB s pos) (fun w' => s.size - w'.iterPos w.heap.size)
  case atStart => exact ⟨0,rfl,fun j hj => by omega⟩
  case round =>
    obtain ⟨pos,rfl,hh⟩:=hrel
    by_cases hp:pos < s.size
    · have hnx:∀ ty,(Instr.next (.pointer (some ⟨w.heap.size,0,none⟩)) true ty).run Tryd.prog (w.iter s pos)=_:=fun ty => run_next_any w s pos ty hp
      by_cases d1:(((Utf8.decode s pos).1:Nat):Int) < 97
      · have hf:nameB s.data.toList=false:=by rw [hn,headB_stop hp (.inl (by omega))]
        clear hn
        go_wp2
        go_ret
        exact ⟨by first | rfl | (rw [hf]; rfl),bel _⟩
      by_cases d2:(122:Int) < (((Utf8.decode s pos).1:Nat):Int)
      · have hf:nameB s.data.toList=false:=by rw [hn,headB_stop hp (.inr (by omega))]
        clear hn
        go_wp2
        go_ret
        exact ⟨by first | rfl | (rw [hf]; rfl),bel _⟩
      obtain ⟨k1,k2⟩:=headB_step hp (by omega) (by omega) hh
      go_wp2
      go_roundw
      case rel => first | exact ⟨_,rfl,k1⟩ | (rw [k2] at k1; exact ⟨_,rfl,k1⟩)
      case measure =>
        simp
        omega
    · have hnx:∀ ty,(Instr.next (.pointer (some ⟨w.heap.size,0,none⟩)) true ty).run Tryd.prog (w.iter s pos)=_:=fun ty => run_next_end w s pos ty hp
      have hf:nameB s.data.toList=true:=by rw [hn,headB_all hp hh]
      clear hn
      go_wp2
      go_ret
      exact ⟨by first | rfl | (rw [hf]; rfl),bel _⟩
theorem p_name (s:Str):PCall Tryd.prog 40 [.str s] (.bool (nameB s)):=by
  refine .of_below ⟨Tryd.f40,Tryd.func40,rfl,by kernel_rfl⟩ fun g m w xs hs hx => ?_
  simp only [RC,R] at hx
  obtain ⟨y,ys,e1,rfl,rfl⟩:=hx
  obtain rfl:xs=#[.string ⟨s.toArray⟩]:=by apply Array.ext'; simpa using e1
  refine (name_walk ⟨s.toArray⟩ w).mono ?_
  rintro e w' ⟨rfl,hw⟩
  exact ⟨_,rfl,by simp [R],hw⟩
end
structure Stp where
  cmd:Cmd
  check:Bool
  crash:Bool
  masks:List Int
structure Pln where
  size:Int
  steps:List Stp
def stpV (s:Stp):V:=.agg [.int .i64 s.cmd.kind,.str s.cmd.key,.str s.cmd.name,.int .i64 s.cmd.token,.int .i64 s.cmd.time,.str s.cmd.text,.str s.cmd.dag.name,tasksV s.cmd.dag.tasks,.bool s.check,.bool s.crash,.fsl .loose 1 (vI s.masks)]
def plnV (p:Pln):V:=.agg [.int .i64 p.size,.fsl .loose 11 (mv stpV p.steps)]
theorem stpV_closed (s:Stp):(stpV s).closed=true:=by simp [stpV,V.closed,closedL,tasksV,vI_closed,mv_closed taskV_closed]
theorem plnV_closed (p:Pln):(plnV p).closed=true:=by simp [plnV,V.closed,closedL,mv_closed stpV_closed]
def timeOk (c:Cmd):Bool:=decide (c.token≤1099511627776∧c.time≤1099511627776)
def wordsOk (c:Cmd):Bool :=
  if c.kind=1 then nameB c.dag.name
  else if c.kind=2 then nameB c.key && nameB c.name
  else if c.kind=5 then decide (c.text=[]) || nameB c.text
  else if c.kind=7∨c.kind=9 then nameB c.key
  else true
def lineCmd (c:Cmd):Bool:=decide (cmdP c) && timeOk c && wordsOk c
def noneC (c:Cmd):Bool:=decide (c.kind=0∧c.key=[]∧c.name=[]∧c.token=0∧c.time=0∧c.text=[]∧noDag c.dag)
def maskB (m:Int):Bool:=decide (0≤m∧m≤255)
def stpB (s:Stp):Bool :=
  if s.crash then !s.check && noneC s.cmd && decide (s.masks.length≤64) && s.masks.all maskB
  else if s.check then noneC s.cmd && decide (s.masks.length=0)
  else lineCmd s.cmd && decide (s.masks.length=0)
def planB (p:Pln):Bool:=decide (24≤p.size∧p.size≤200) && decide (p.steps.length≤200) && p.steps.all stpB
/-! Lines. -/
def wCrash:Str:=[99,114,97,115,104]
def wCheck:Str:=[99,104,101,99,107]
def wGraph:Str:=[103,114,97,112,104]
def wStart:Str:=[115,116,97,114,116]
def wPoll:Str:=[112,111,108,108]
def wBeat:Str:=[98,101,97,116]
def wDone:Str:=[100,111,110,101]
def wFail:Str:=[102,97,105,108]
def wCancel:Str:=[99,97,110,99,101,108]
def wTick:Str:=[116,105,99,107]
def wState:Str:=[115,116,97,116,101]
def wSync:Str:=[115,121,110,99]
def wSize:Str:=[115,105,122,101]
def numW (l:List Int):List Str:=l.map Lib.itoa
def taskW (t:Task):Str:=Lib.join (numW ([t.tries,t.wait,t.lease]++t.needs)) [44]
def wordsL (c:Cmd):List Str :=
  if c.kind=1 then [wGraph,c.dag.name]++c.dag.tasks.map taskW
  else if c.kind=2 then [wStart,c.key,c.name]
  else if c.kind=3 then [wPoll]
  else if c.kind=4 then [wBeat,Lib.itoa c.token]
  else if c.kind=5 then (if c.text=[] then [wDone,Lib.itoa c.token] else [wDone,Lib.itoa c.token,c.text])
  else if c.kind=6 then [wFail,Lib.itoa c.token]
  else if c.kind=7 then [wCancel,c.key]
  else if c.kind=8 then [wTick,Lib.itoa c.time]
  else if c.kind=9 then [wState,c.key]
  else [wSync]
def wordsS (s:Stp):List Str :=
  if s.crash then [wCrash]++numW s.masks else if s.check then [wCheck] else wordsL s.cmd
def lineW (ws:List Str):Str:=Lib.join ws [32]++[10]
def lineS (s:Stp):Str:=lineW (wordsS s)
def sizeW (n:Int):Str:=lineW [wSize,Lib.itoa n]
def planT (p:Pln):Str:=sizeW p.size++(p.steps.map lineS).flatten
def printS (p:Pln):Str×Int:=if planB p then (planT p,0) else ([],1)
/-! Lengths. -/
theorem digits_len:∀ (k u:Nat),u < 10 ^ (k+1)→(Lib.decDigits u).length≤k+1
  | 0,u,h => by rw [Lib.decDigits,dif_pos (by simpa using h)]; simp
  | k+1,u,h => by
    rw [Lib.decDigits]
    split
    · simp
    · have:=digits_len k (u / 10) (by rw [Nat.div_lt_iff_lt_mul (by omega)]; rw [Nat.pow_succ] at h; exact h)
      simp only [List.length_append,List.length_singleton]; omega
theorem itoa_len {n:Int} (h:-9223372036854775808≤n∧n≤9223372036854775807):(Lib.itoa n).length≤20:=by
  unfold Lib.itoa
  split
  · have := digits_len 18 n.natAbs (by have : (10 : Nat) ^ (18 + 1) = 10000000000000000000 := by decide
                                       omega)
    simp only [List.length_cons]; omega
  · have := digits_len 18 n.toNat (by have : (10 : Nat) ^ (18 + 1) = 10000000000000000000 := by decide
                                      omega)
    omega
theorem join_len {l:List Str} {sep:Str} {k:Nat} (h:∀ x∈l,x.length≤k):(Lib.join l sep).length≤l.length*(sep.length+k):=by
  cases l with
  | nil => simp [Lib.join_nil]
  | cons a l =>
    rw [Lib.join_cons]
    have h1:=h a (by simp)
    have h2:(Lib.joinTail sep l).length≤l.length*(sep.length+k):=by
      have hl:∀ x∈l,x.length≤k:=fun x hx => h x (by simp [hx])
      clear h h1
      induction l with
      | nil => simp [Lib.joinTail]
      | cons b l ih =>
        have:=ih (fun x hx => hl x (by simp [hx]))
        have hb:=hl b (by simp)
        simp only [Lib.joinTail,List.map_cons,List.flatten_cons,List.length_append,List.length_cons] at this ⊢
        rw [Nat.add_mul]; omega
    simp only [List.length_append,List.length_cons]
    rw [Nat.add_mul]; omega
section
set_option maxRecDepth 100000
def ren_itoa:Go.Shelf.Ren:=⟨fun x => match x with | 171 => 11 | 243 => 21 | 246 => 33 | 283 => 42 | 284 => 43 | 285 => 44 | 286 => 45 | 129 => 66 | 317 => 65 | 318 => 67 | 319 => 68 | 320 => 69 | 337 => 84 | 338 => 85 | n => n,fun x => match x with | 3 => 3 | 9 => 9 | 2 => 2 | 4 => 4 | 171 => 73 | 0 => 0 | 53 => 74 | 37 => 32 | 5 => 5 | 173 => 77 | 212 => 97 | 51 => 98 | 20 => 20 | 213 => 99 | 46 => 100 | 232 => 115 | 233 => 116 | n => n,fun x => match x with | 17 => 0 | 18 => 2 | 19 => 3 | n => n⟩
theorem lays_itoa:LaysM.n171 Tryd.prog ren_itoa where
  mixed:=by kernel_rfl
  f129:=Tryd.func66.trans (congrArg some (by kernel_rfl))
  f171:=Tryd.func11.trans (congrArg some (by kernel_rfl))
  f243:=Tryd.func21.trans (congrArg some (by kernel_rfl))
  f246:=Tryd.func33.trans (congrArg some (by kernel_rfl))
  f283:=Tryd.func42.trans (congrArg some (by kernel_rfl))
  f284:=Tryd.func43.trans (congrArg some (by kernel_rfl))
  f285:=Tryd.func44.trans (congrArg some (by kernel_rfl))
  f286:=Tryd.func45.trans (congrArg some (by kernel_rfl))
  f317:=Tryd.func65.trans (congrArg some (by kernel_rfl))
  f318:=Tryd.func67.trans (congrArg some (by kernel_rfl))
  f319:=Tryd.func68.trans (congrArg some (by kernel_rfl))
  f320:=Tryd.func69.trans (congrArg some (by kernel_rfl))
  f337:=Tryd.func84.trans (congrArg some (by kernel_rfl))
  f338:=Tryd.func85.trans (congrArg some (by kernel_rfl))
  t0:=Tryd.underlying0
  a0:=Tryd.isAgg0
  z0:=Tryd.sizeOf0
  v0:=Tryd.zeroValue0
  t2:=Tryd.underlying2
  a2:=Tryd.isAgg2
  z2:=Tryd.sizeOf2
  v2:=Tryd.zeroValue2
  t3:=Tryd.underlying3
  a3:=Tryd.isAgg3
  z3:=Tryd.sizeOf3
  v3:=Tryd.zeroValue3
  t4:=Tryd.underlying4
  a4:=Tryd.isAgg4
  z4:=Tryd.sizeOf4
  v4:=Tryd.zeroValue4
  t5:=Tryd.underlying5
  a5:=Tryd.isAgg5
  z5:=Tryd.sizeOf5
  v5:=Tryd.zeroValue5
  t9:=Tryd.underlying9
  a9:=Tryd.isAgg9
  z9:=Tryd.sizeOf9
  v9:=Tryd.zeroValue9
  t20:=Tryd.underlying20
  a20:=Tryd.isAgg20
  z20:=Tryd.sizeOf20
  v20:=Tryd.zeroValue20
  t37:=Tryd.underlying32
  a37:=Tryd.isAgg32
  z37:=Tryd.sizeOf32
  v37:=Tryd.zeroValue32
  t46:=Tryd.underlying100
  a46:=Tryd.isAgg100
  z46:=Tryd.sizeOf100
  v46:=Tryd.zeroValue100
  t51:=Tryd.underlying98
  a51:=Tryd.isAgg98
  z51:=Tryd.sizeOf98
  v51:=Tryd.zeroValue98
  t53:=Tryd.underlying74
  a53:=Tryd.isAgg74
  z53:=Tryd.sizeOf74
  v53:=Tryd.zeroValue74
  t171:=Tryd.underlying73
  a171:=Tryd.isAgg73
  z171:=Tryd.sizeOf73
  v171:=Tryd.zeroValue73
  t173:=Tryd.underlying77
  a173:=Tryd.isAgg77
  z173:=Tryd.sizeOf77
  v173:=Tryd.zeroValue77
  t212:=Tryd.underlying97
  a212:=Tryd.isAgg97
  z212:=Tryd.sizeOf97
  v212:=Tryd.zeroValue97
  t213:=Tryd.underlying99
  a213:=Tryd.isAgg99
  z213:=Tryd.sizeOf99
  t232:=Tryd.underlying115
  a232:=Tryd.isAgg115
  z232:=Tryd.sizeOf115
  v232:=Tryd.zeroValue115
  t233:=Tryd.underlying116
  a233:=Tryd.isAgg116
  z233:=Tryd.sizeOf116
  v233:=Tryd.zeroValue116
  g17:=by kernel_rfl
  g18:=by kernel_rfl
  g19:=by kernel_rfl
  i0:=by kernel_rfl
  i2:=by kernel_rfl
  i3:=by kernel_rfl
  i4:=by kernel_rfl
  i5:=by kernel_rfl
  i9:=by kernel_rfl
  i20:=by kernel_rfl
  i37:=by kernel_rfl
  i46:=by kernel_rfl
  i51:=by kernel_rfl
  i53:=by kernel_rfl
  i171:=by kernel_rfl
  i173:=by kernel_rfl
  i212:=by kernel_rfl
  i232:=by kernel_rfl
  i233:=by kernel_rfl
  m17:=by kernel_rfl
  m18:=by kernel_rfl
  m19:=by kernel_rfl
end
section
open Go Go.RowKit
theorem itoa_p {P:Program} {ρ:Shelf.Ren} (L:LaysM.n171 P ρ) (hb:HasBody P (ρ.f 171)) {gi:Nat} (hg:P.globalNamed "internal/strconv.uint64pow10"=some gi) (hin:(gi,fun cs => cs=Lib.pow10Tab.map fun z => Value.int .u64 z)∈theTabs) (n:Int) (h0:-9223372036854775808≤n) (h1:n≤9223372036854775807) :
    PCall P (ρ.f 171) [.int .i64 n] (.str (Lib.itoa n)):=by
  refine .of_below hb fun g m w xs hs hx => ?_
  simp only [RC,R] at hx
  obtain ⟨y,ys,e1,rfl,rfl⟩:=hx
  obtain rfl:xs=#[.int .i64 n]:=by apply Array.ext'; simpa using e1
  obtain ⟨cs,hF,hcs⟩:=hs.tab _ hin
  simp only at hF hcs
  subst hcs
  obtain ⟨e,fr,hh⟩:=hs.fro _ _ hF
  have ht:Lib.TabIs P w "internal/strconv.uint64pow10" .u64 Lib.pow10Tab:=by
    unfold Lib.TabIs World.var?
    rw [hg]
    simp only [Option.bind_some,hh]
  refine (Any.strconv_Itoa L n h0 h1 w ht).mono ?_
  rintro e w' ⟨rfl,k,os,rfl⟩
  exact ⟨_,rfl,by simp [R],⟨rfl,rfl,rfl,by show w.heap.size≤(w.heap++os).size; rw [Array.size_append]; omega,fun j hj => by show (w.heap++os)[j]?=_; rw [Array.getElem?_append_left hj]⟩⟩
theorem p_itoa (n:Int) (h:-9223372036854775808≤n∧n≤9223372036854775807):PCall Tryd.prog 11 [.int .i64 n] (.str (Lib.itoa n)) :=
  itoa_p (P:=Tryd.prog) (ρ:=ren_itoa) lays_itoa ⟨Tryd.f11,Tryd.func11,rfl,by kernel_rfl⟩ (gi:=0) (by kernel_rfl) (by repeat (first | exact List.mem_cons_self | apply List.mem_cons_of_mem)) n h.1 h.2
end
def c25:C :=
  (.seq
 (.reg false [p (.mov (.k (.int .i64 0)))] [(0,.v 0),(1,.v 1)])
 (.seq
 (.seq
 (.reg false [p (.mov (.v 0)),
 p (.len false (.r 0)),
 p (.mov (.k (.int .i64 0)))] [(0,.v 0),(1,.v 1),(7,.r 1),(8,.r 0)])
 (.block 0
 (.loop
 (.seq
 (.reg false [p (.bin .lss (.v 8) (.v 7))] [(0,.v 0),(1,.v 1),(7,.v 7),(8,.v 8),(9,.r 0)])
 (.seq
 (.cond (.v 9)
 .skip
 (.exit 0))
 (.seq
 (.block 1
 (.seq
 (.reg false [p (.mov (.v 8)),
 p (.mov (.r 0))] [(0,.v 0),(1,.v 1),(5,.r 0),(7,.v 7),(8,.v 8)])
 (.seq
 (.reg false [p (.mov (.v 1)),
 p (.mov (.v 0)),
 p (.mov (.v 5)),
 p (.iad 11 (.r 1) (.r 0)),
 p (.load (some 11) (.r 0)),
 p (.call false (.r 4) [.r 0])] [(0,.v 0),(1,.v 1),(5,.v 5),(7,.v 7),(8,.v 8),(16,.r 0)])
 (.cond (.v 16)
 (.seq
 (.reg false [p (.mov (.v 5)),
 p (.mov (.r 0))] [(4,.r 0)])
 .ret)
 .skip))))
 (.reg false [p (.bin .add (.v 8) (.k (.int .i64 1))),
 p (.mov (.r 0))] [(0,.v 0),(1,.v 1),(7,.v 7),(8,.r 0)])))))))
 (.frz
 (.seq
 (.reg false [p (.mov (.k (.int .i64 (-1))))] [(4,.r 0)])
 .ret))))
def r25:List RV:=[.t 4]
theorem chk25:Chk Tryd.prog Tryd.f25 c25 r25:=⟨_,rfl,by kernel_rfl,by kernel_rfl⟩
theorem ena25:EnA Tryd.prog 25 19 c25 r25:=mkEnA (by kernel_rfl) Tryd.func25 (by kernel_rfl) chk25
def c15:C :=
  (.seq
 (.reg false [p (.mov (.k (.bool false)))] [(0,.v 0),(1,.v 1)])
 (.seq
 (.reg false [p (.mov (.v 0)),
 p (.mov (.v 1)),
 p (.call false (.k (.fn 25 [] [])) [.r 1,.r 0]),
 p (.bin .geq (.r 0) (.k (.int .i64 0))),
 p (.mov (.r 0))] [(4,.r 0)])
 .ret))
def r15:List RV:=[.t 4]
theorem chk15:Chk Tryd.prog Tryd.f15 c15 r15:=⟨_,rfl,by kernel_rfl,by kernel_rfl⟩
theorem ena15:EnA Tryd.prog 15 9 c15 r15:=mkEnA (by kernel_rfl) Tryd.func15 (by kernel_rfl) chk15
def c26:C :=
  (.seq
 (.reg false [p (.box 8 (.v 0)),
 p (.mov (.k (.bool false)))] [(1,.r 1)])
 (.seq
 (.reg false [p (.fad 0 (.v 1)),
 p (.load (none) (.r 0)),
 p (.bin .eql (.r 0) (.k (.int .i64 0))),
 p (.mov (.r 0)),
 ⟨.fad 1 (.v 1),some (0,true),[]⟩,
 ⟨.load (none) (.r 0),some (1,true),[]⟩,
 ⟨.bin .eql (.r 0) (.k (.str [])),some (2,true),[]⟩,
 p (.pick (.r 3) (.r 0) (.k (.bool false))),
 p (.mov (.r 0)),
 ⟨.fad 2 (.v 1),some (0,true),[]⟩,
 ⟨.load (none) (.r 0),some (1,true),[]⟩,
 ⟨.bin .eql (.r 0) (.k (.str [])),some (2,true),[]⟩,
 p (.pick (.r 3) (.r 0) (.k (.bool false))),
 p (.mov (.r 0)),
 ⟨.fad 3 (.v 1),some (0,true),[]⟩,
 ⟨.load (none) (.r 0),some (1,true),[]⟩,
 ⟨.bin .eql (.r 0) (.k (.int .i64 0)),some (2,true),[]⟩,
 p (.pick (.r 3) (.r 0) (.k (.bool false))),
 p (.mov (.r 0)),
 ⟨.fad 4 (.v 1),some (0,true),[]⟩,
 ⟨.load (none) (.r 0),some (1,true),[]⟩,
 ⟨.bin .eql (.r 0) (.k (.int .i64 0)),some (2,true),[]⟩,
 p (.pick (.r 3) (.r 0) (.k (.bool false))),
 p (.mov (.r 0)),
 ⟨.fad 5 (.v 1),some (0,true),[]⟩,
 ⟨.load (none) (.r 0),some (1,true),[]⟩,
 ⟨.bin .eql (.r 0) (.k (.str [])),some (2,true),[]⟩,
 p (.pick (.r 3) (.r 0) (.k (.bool false))),
 p (.mov (.r 0)),
 ⟨.fad 6 (.v 1),some (0,true),[]⟩,
 ⟨.fad 0 (.r 0),some (1,true),[]⟩,
 ⟨.load (none) (.r 0),some (2,true),[]⟩,
 ⟨.bin .eql (.r 0) (.k (.str [])),some (3,true),[]⟩,
 p (.pick (.r 4) (.r 0) (.k (.bool false))),
 p (.mov (.r 0)),
 ⟨.fad 6 (.v 1),some (0,true),[]⟩,
 ⟨.fad 1 (.r 0),some (1,true),[]⟩,
 ⟨.load (none) (.r 0),some (2,true),[]⟩,
 ⟨.len false (.r 0),some (3,true),[]⟩,
 ⟨.bin .eql (.r 0) (.k (.int .i64 0)),some (4,true),[]⟩,
 p (.pick (.r 5) (.r 0) (.k (.bool false))),
 p (.mov (.r 0))] [(2,.r 0)])
 .ret))
def r26:List RV:=[.t 2]
theorem en26:EnP Tryd.prog 26 44 c26 r26:=mkEnP (by kernel_rfl) Tryd.func26 (by kernel_rfl) ⟨_,rfl,by kernel_rfl,by kernel_rfl⟩
def c29:C :=
  (.seq
 (.reg false [p (.box 8 (.v 0)),
 p (.mov (.k (.bool false)))] [(1,.r 1)])
 (.seq
 (.seq
 (.reg false [p (.load (some 8) (.v 1)),
 p (.call true (.k (.fn 38 [] [])) [.r 0]),
 p (.mov (.r 0)),
 p (.ext (.r 0) 0),
 p (.ext (.r 1) 1),
 p (.mov (.r 1)),
 p (.mov (.r 1))] [(1,.v 1),(4,.r 0)])
 (.seq
 (.reg false [p (.mov (.v 4)),
 p (.bin .neq (.r 0) (.k (.int .i64 0))),
 p (.mov (.r 0)),
 ⟨.fad 3 (.v 1),some (0,false),[]⟩,
 ⟨.load (none) (.r 0),some (1,false),[]⟩,
 ⟨.bin .gtr (.r 0) (.k (.int .i64 1099511627776)),some (2,false),[]⟩,
 p (.pick (.r 3) (.k (.bool true)) (.r 0)),
 p (.mov (.r 0)),
 ⟨.fad 4 (.v 1),some (0,false),[]⟩,
 ⟨.load (none) (.r 0),some (1,false),[]⟩,
 ⟨.bin .gtr (.r 0) (.k (.int .i64 1099511627776)),some (2,false),[]⟩,
 p (.pick (.r 3) (.k (.bool true)) (.r 0))] [(1,.v 1),(21,.r 0)])
 (.cond (.v 21)
 (.seq
 (.reg false [p (.mov (.k (.bool false)))] [(2,.r 0)])
 .ret)
 .skip)))
 (.seq
 (.seq
 (.reg false [p (.fad 0 (.v 1)),
 p (.load (none) (.r 0))] [(1,.v 1),(23,.r 0)])
 (.block 0
 (.seq
 (.reg false [p (.bin .eql (.v 23) (.k (.int .i64 1))),
 p (.mov (.r 0))] [(1,.v 1),(23,.v 23),(24,.r 0)])
 (.cond (.v 24)
 (.seq
 (.reg false [p (.fad 6 (.v 1)),
 p (.load (some 2) (.r 0)),
 p (.call true (.k (.fn 39 [] [])) [.r 0]),
 p (.bin .eql (.r 0) (.k (.int .i64 0))),
 p (.mov (.r 0)),
 ⟨.fad 6 (.v 1),some (0,true),[]⟩,
 ⟨.fad 0 (.r 0),some (1,true),[]⟩,
 ⟨.load (none) (.r 0),some (2,true),[]⟩,
 ⟨.call true (.k (.fn 40 [] [])) [.r 0],some (3,true),[]⟩,
 p (.pick (.r 4) (.r 0) (.k (.bool false))),
 p (.mov (.r 0))] [(2,.r 0)])
 .ret)
 (.seq
 (.reg false [p (.bin .eql (.v 23) (.k (.int .i64 2))),
 p (.mov (.r 0))] [(1,.v 1),(23,.v 23),(36,.r 0)])
 (.cond (.v 36)
 (.seq
 (.reg false [p (.fad 1 (.v 1)),
 p (.load (none) (.r 0)),
 p (.call true (.k (.fn 40 [] [])) [.r 0]),
 p (.mov (.r 0)),
 ⟨.fad 2 (.v 1),some (0,true),[]⟩,
 ⟨.load (none) (.r 0),some (1,true),[]⟩,
 ⟨.call true (.k (.fn 40 [] [])) [.r 0],some (2,true),[]⟩,
 p (.pick (.r 3) (.r 0) (.k (.bool false))),
 p (.mov (.r 0))] [(2,.r 0)])
 .ret)
 (.seq
 (.reg false [p (.bin .eql (.v 23) (.k (.int .i64 5))),
 p (.mov (.r 0))] [(1,.v 1),(23,.v 23),(46,.r 0)])
 (.cond (.v 46)
 (.seq
 (.reg false [p (.fad 5 (.v 1)),
 p (.load (none) (.r 0)),
 p (.bin .eql (.r 0) (.k (.str []))),
 p (.mov (.r 0)),
 ⟨.fad 5 (.v 1),some (0,false),[]⟩,
 ⟨.load (none) (.r 0),some (1,false),[]⟩,
 ⟨.call true (.k (.fn 40 [] [])) [.r 0],some (2,false),[]⟩,
 p (.pick (.r 3) (.k (.bool true)) (.r 0)),
 p (.mov (.r 0))] [(2,.r 0)])
 .ret)
 (.seq
 (.seq
 (.reg false [p (.bin .eql (.v 23) (.k (.int .i64 7))),
 p (.mov (.r 0))] [(1,.v 1),(23,.v 23),(56,.r 0)])
 (.cond (.v 56)
 .skip
 (.reg false [p (.bin .eql (.v 23) (.k (.int .i64 9))),
 p (.mov (.r 0))] [(1,.v 1),(56,.r 0)])))
 (.cond (.v 56)
 (.seq
 (.reg false [p (.fad 1 (.v 1)),
 p (.load (none) (.r 0)),
 p (.call true (.k (.fn 40 [] [])) [.r 0]),
 p (.mov (.r 0))] [(2,.r 0)])
 .ret)
 .skip))))))))))
 (.seq
 (.reg false [p (.mov (.k (.bool true)))] [(2,.r 0)])
 .ret))))
def r29:List RV:=[.t 2]
theorem en29:EnP Tryd.prog 29 62 c29 r29:=mkEnP (by kernel_rfl) Tryd.func29 (by kernel_rfl) ⟨_,rfl,by kernel_rfl,by kernel_rfl⟩
def c28:C :=
  (.seq
 (.reg false [p (.mov (.k (.bool false)))] [(0,.v 0)])
 (.seq
 (.reg false [p (.mov (.v 0)),
 p (.bin .lss (.r 0) (.k (.int .i64 0))),
 p (.mov (.r 0)),
 ⟨.mov (.v 0),some (0,false),[]⟩,
 ⟨.bin .gtr (.r 0) (.k (.int .i64 255)),some (1,false),[]⟩,
 p (.pick (.r 2) (.k (.bool true)) (.r 0)),
 p (.mov (.r 0))] [(2,.r 0)])
 .ret))
def r28:List RV:=[.t 2]
theorem chk28:Chk Tryd.prog Tryd.f28 c28 r28:=⟨_,rfl,by kernel_rfl,by kernel_rfl⟩
theorem ena28:EnA Tryd.prog 28 9 c28 r28:=mkEnA (by kernel_rfl) Tryd.func28 (by kernel_rfl) chk28
def c17:C :=
  (.seq
 (.reg false [p (.box 11 (.v 0)),
 p (.mov (.k (.bool false)))] [(1,.r 1)])
 (.seq
 (.block 0
 (.seq
 (.reg false [p (.fad 9 (.v 1)),
 p (.load (none) (.r 0)),
 p (.mov (.r 0))] [(1,.v 1),(3,.r 0)])
 (.cond (.v 3)
 (.seq
 (.reg false [p (.fad 8 (.v 1)),
 p (.load (none) (.r 0)),
 p (.un .not (.r 0)),
 p (.mov (.r 0)),
 ⟨.fad 0 (.v 1),some (0,true),[]⟩,
 ⟨.load (some 8) (.r 0),some (1,true),[]⟩,
 ⟨.call true (.k (.fn 26 [] [])) [.r 0],some (2,true),[]⟩,
 p (.pick (.r 3) (.r 0) (.k (.bool false))),
 p (.mov (.r 0)),
 ⟨.fad 10 (.v 1),some (0,true),[]⟩,
 ⟨.load (none) (.r 0),some (1,true),[]⟩,
 ⟨.len false (.r 0),some (2,true),[]⟩,
 ⟨.bin .leq (.r 0) (.k (.int .i64 64)),some (3,true),[]⟩,
 p (.pick (.r 4) (.r 0) (.k (.bool false))),
 p (.mov (.r 0)),
 ⟨.fad 10 (.v 1),some (0,true),[]⟩,
 ⟨.load (none) (.r 0),some (1,true),[]⟩,
 ⟨.call false (.k (.fn 27 [] [])) [.r 0,.k (.fn 28 [] [])],some (2,true),[]⟩,
 ⟨.un .not (.r 0),some (3,true),[]⟩,
 p (.pick (.r 4) (.r 0) (.k (.bool false))),
 p (.mov (.r 0))] [(2,.r 0)])
 .ret)
 (.seq
 (.reg false [p (.fad 8 (.v 1)),
 p (.load (none) (.r 0)),
 p (.mov (.r 0))] [(1,.v 1),(26,.r 0)])
 (.cond (.v 26)
 (.seq
 (.reg false [p (.fad 0 (.v 1)),
 p (.load (some 8) (.r 0)),
 p (.call true (.k (.fn 26 [] [])) [.r 0]),
 p (.mov (.r 0)),
 ⟨.fad 10 (.v 1),some (0,true),[]⟩,
 ⟨.load (none) (.r 0),some (1,true),[]⟩,
 ⟨.len false (.r 0),some (2,true),[]⟩,
 ⟨.bin .eql (.r 0) (.k (.int .i64 0)),some (3,true),[]⟩,
 p (.pick (.r 4) (.r 0) (.k (.bool false))),
 p (.mov (.r 0))] [(2,.r 0)])
 .ret)
 .skip)))))
 (.seq
 (.reg false [p (.fad 0 (.v 1)),
 p (.load (some 8) (.r 0)),
 p (.call true (.k (.fn 29 [] [])) [.r 0]),
 p (.mov (.r 0)),
 ⟨.fad 10 (.v 1),some (0,true),[]⟩,
 ⟨.load (none) (.r 0),some (1,true),[]⟩,
 ⟨.len false (.r 0),some (2,true),[]⟩,
 ⟨.bin .eql (.r 0) (.k (.int .i64 0)),some (3,true),[]⟩,
 p (.pick (.r 4) (.r 0) (.k (.bool false))),
 p (.mov (.r 0))] [(2,.r 0)])
 .ret)))
def r17:List RV:=[.t 2]
theorem en17:EnP Tryd.prog 17 47 c17 r17:=mkEnP (by kernel_rfl) Tryd.func17 (by kernel_rfl) ⟨_,rfl,by kernel_rfl,by kernel_rfl⟩
def c16:C :=
  (.seq
 (.reg false [p (.box 11 (.v 0)),
 p (.mov (.k (.bool false)))] [(1,.r 1)])
 (.seq
 (.reg false [p (.load (some 11) (.v 1)),
 p (.call true (.k (.fn 17 [] [])) [.r 0]),
 p (.un .not (.r 0)),
 p (.mov (.r 0))] [(2,.r 0)])
 .ret))
def r16:List RV:=[.t 2]
theorem chk16:Chk Tryd.prog Tryd.f16 c16 r16:=⟨_,rfl,by kernel_rfl,by kernel_rfl⟩
theorem ena16:EnA Tryd.prog 16 6 c16 r16:=mkEnA (by kernel_rfl) Tryd.func16 (by kernel_rfl) chk16
def c7:C :=
  (.seq
 (.reg false [p (.box 2 (.v 0)),
 p (.mov (.k (.bool false)))] [(1,.r 1)])
 (.seq
 (.reg false [p (.fad 0 (.v 1)),
 p (.load (none) (.r 0)),
 p (.bin .geq (.r 0) (.k (.int .i64 24))),
 p (.mov (.r 0)),
 ⟨.fad 0 (.v 1),some (0,true),[]⟩,
 ⟨.load (none) (.r 0),some (1,true),[]⟩,
 ⟨.bin .leq (.r 0) (.k (.int .i64 200)),some (2,true),[]⟩,
 p (.pick (.r 3) (.r 0) (.k (.bool false))),
 p (.mov (.r 0)),
 ⟨.fad 1 (.v 1),some (0,true),[]⟩,
 ⟨.load (none) (.r 0),some (1,true),[]⟩,
 ⟨.len false (.r 0),some (2,true),[]⟩,
 ⟨.bin .leq (.r 0) (.k (.int .i64 200)),some (3,true),[]⟩,
 p (.pick (.r 4) (.r 0) (.k (.bool false))),
 p (.mov (.r 0)),
 ⟨.fad 1 (.v 1),some (0,true),[]⟩,
 ⟨.load (none) (.r 0),some (1,true),[]⟩,
 ⟨.call false (.k (.fn 15 [] [])) [.r 0,.k (.fn 16 [] [])],some (2,true),[]⟩,
 ⟨.un .not (.r 0),some (3,true),[]⟩,
 p (.pick (.r 4) (.r 0) (.k (.bool false))),
 p (.mov (.r 0))] [(2,.r 0)])
 .ret))
def r7:List RV:=[.t 2]
theorem en7:EnP Tryd.prog 7 23 c7 r7:=mkEnP (by kernel_rfl) Tryd.func7 (by kernel_rfl) ⟨_,rfl,by kernel_rfl,by kernel_rfl⟩
def c10:C :=
  (.seq
 (.reg false [p (.mov (.k (.str [])))] [(0,.v 0)])
 (.seq
 (.reg false [p (.mov (.v 0)),
 p (.call true (.k (.fn 20 [] [])) [.r 0,.k (.str [32])]),
 p (.bin .add (.r 0) (.k (.str [10]))),
 p (.mov (.r 0))] [(2,.r 0)])
 .ret))
def r10:List RV:=[.t 2]
theorem en10:EnP Tryd.prog 10 6 c10 r10:=mkEnP (by kernel_rfl) Tryd.func10 (by kernel_rfl) ⟨_,rfl,by kernel_rfl,by kernel_rfl⟩
def c22:C :=
  (.seq
 (.reg false [p (.mov (.k (.fsl .nil 1 [])))] [(0,.v 0)])
 (.seq
 (.reg false [p (.mov (.k (.fsl .nil 1 [])))] [(0,.v 0),(3,.r 0)])
 (.seq
 (.seq
 (.reg false [p (.mov (.v 0)),
 p (.len false (.r 0)),
 p (.mov (.k (.int .i64 0)))] [(3,.v 3),(6,.r 2),(7,.r 1),(8,.r 0)])
 (.block 0
 (.loop
 (.seq
 (.reg false [p (.bin .lss (.v 8) (.v 7))] [(3,.v 3),(6,.v 6),(7,.v 7),(8,.v 8),(9,.r 0)])
 (.seq
 (.cond (.v 9)
 .skip
 (.exit 0))
 (.seq
 (.block 1
 (.seq
 (.reg false [p (.iad 1 (.v 6) (.v 8)),
 p (.load (none) (.r 0)),
 p (.mov (.r 0))] [(3,.v 3),(5,.r 0),(6,.v 6),(7,.v 7),(8,.v 8)])
 (.reg false [p (.mov (.v 3)),
 p (.mov (.v 5)),
 p (.call true (.k (.fn 11 [] [])) [.r 0]),
 p (.bsl 1 [.r 0]),
 p (.app 1 16 (.r 3) (.r 0)),
 p (.mov (.r 0))] [(3,.r 0),(6,.v 6),(7,.v 7),(8,.v 8)])))
 (.reg false [p (.bin .add (.v 8) (.k (.int .i64 1))),
 p (.mov (.r 0))] [(3,.v 3),(6,.v 6),(7,.v 7),(8,.r 0)])))))))
 (.frz
 (.seq
 (.reg false [p (.mov (.v 3)),
 p (.mov (.r 0))] [(2,.r 0)])
 .ret)))))
def r22:List RV:=[.t 2]
theorem en22:EnP Tryd.prog 22 19 c22 r22:=mkEnP (by kernel_rfl) Tryd.func22 (by kernel_rfl) ⟨_,rfl,by kernel_rfl,by kernel_rfl⟩
def c12:C :=
  (.seq
 (.reg false [p (.box 11 (.v 0)),
 p (.mov (.k (.str [])))] [(1,.r 1)])
 (.seq
 (.reg false [p (.fad 0 (.v 1)),
 p (.load (some 8) (.r 0)),
 p (.alloc 8 (.agg [.int .i64 0,.str [],.str [],.int .i64 0,.int .i64 0,.str [],.str [],.fsl .nil 4 []])),
 p (.store (some 8) (.r 0) (.r 1))] [(1,.v 1),(3,.r 1)])
 (.seq
 (.block 0
 (.seq
 (.reg false [p (.fad 9 (.v 1)),
 p (.load (none) (.r 0)),
 p (.mov (.r 0))] [(1,.v 1),(3,.v 3),(9,.r 0)])
 (.cond (.v 9)
 (.seq
 (.reg false [p (.bsl 1 [.k (.str [99,114,97,115,104])]),
 p (.fad 10 (.v 1)),
 p (.load (none) (.r 0)),
 p (.call false (.k (.fn 22 [] [])) [.r 0]),
 p (.app 1 16 (.r 3) (.r 0)),
 p (.call false (.k (.fn 10 [] [])) [.r 0]),
 p (.mov (.r 0))] [(2,.r 0)])
 .ret)
 (.seq
 (.reg false [p (.fad 8 (.v 1)),
 p (.load (none) (.r 0)),
 p (.mov (.r 0))] [(3,.v 3),(18,.r 0)])
 (.cond (.v 18)
 (.seq
 (.reg false [p (.bsl 1 [.k (.str [99,104,101,99,107])]),
 p (.call false (.k (.fn 10 [] [])) [.r 0]),
 p (.mov (.r 0))] [(2,.r 0)])
 .ret)
 .skip)))))
 (.seq
 (.seq
 (.reg false [p (.fad 0 (.v 3)),
 p (.load (none) (.r 0))] [(3,.v 3),(24,.r 0)])
 (.block 1
 (.seq
 (.reg false [p (.bin .eql (.v 24) (.k (.int .i64 1))),
 p (.mov (.r 0))] [(3,.v 3),(24,.v 24),(25,.r 0)])
 (.cond (.v 25)
 (.seq
 (.reg false [p (.fad 6 (.v 3)),
 p (.fad 0 (.r 0)),
 p (.load (none) (.r 0)),
 p (.bsl 1 [.k (.str [103,114,97,112,104]),.r 0]),
 p (.mov (.r 0))] [(3,.v 3),(4,.r 0)])
 (.seq
 (.seq
 (.reg false [p (.fad 6 (.v 3)),
 p (.fad 1 (.r 0)),
 p (.load (none) (.r 0)),
 p (.len false (.r 0)),
 p (.mov (.k (.int .i64 0)))] [(4,.v 4),(33,.r 2),(34,.r 1),(35,.r 0)])
 (.block 2
 (.loop
 (.seq
 (.reg false [p (.bin .lss (.v 35) (.v 34))] [(4,.v 4),(33,.v 33),(34,.v 34),(35,.v 35),(36,.r 0)])
 (.seq
 (.cond (.v 36)
 .skip
 (.exit 2))
 (.seq
 (.block 3
 (.seq
 (.reg false [p (.iad 4 (.v 33) (.v 35)),
 p (.load (some 4) (.r 0)),
 p (.alloc 4 (.agg [.fsl .nil 1 [],.int .i64 0,.int .i64 0,.int .i64 0])),
 p (.store (some 4) (.r 0) (.r 1))] [(4,.v 4),(6,.r 1),(33,.v 33),(34,.v 34),(35,.v 35)])
 (.reg false [p (.mov (.v 4)),
 p (.fad 1 (.v 6)),
 p (.load (none) (.r 0)),
 p (.fad 2 (.v 6)),
 p (.load (none) (.r 0)),
 p (.fad 3 (.v 6)),
 p (.load (none) (.r 0)),
 p (.bsl 1 [.r 4,.r 2,.r 0]),
 p (.fad 0 (.v 6)),
 p (.load (none) (.r 0)),
 p (.app 1 8 (.r 2) (.r 0)),
 p (.call false (.k (.fn 22 [] [])) [.r 0]),
 p (.call true (.k (.fn 20 [] [])) [.r 0,.k (.str [44])]),
 p (.bsl 1 [.r 0]),
 p (.app 1 16 (.r 13) (.r 0)),
 p (.mov (.r 0))] [(4,.r 0),(33,.v 33),(34,.v 34),(35,.v 35)])))
 (.reg false [p (.bin .add (.v 35) (.k (.int .i64 1))),
 p (.mov (.r 0))] [(4,.v 4),(33,.v 33),(34,.v 34),(35,.r 0)])))))))
 (.frz
 (.seq
 (.reg false [p (.mov (.v 4)),
 p (.call false (.k (.fn 10 [] [])) [.r 0]),
 p (.mov (.r 0))] [(2,.r 0)])
 .ret))))
 (.seq
 (.reg false [p (.bin .eql (.v 24) (.k (.int .i64 2))),
 p (.mov (.r 0))] [(3,.v 3),(24,.v 24),(57,.r 0)])
 (.cond (.v 57)
 (.seq
 (.reg false [p (.fad 1 (.v 3)),
 p (.load (none) (.r 0)),
 p (.fad 2 (.v 3)),
 p (.load (none) (.r 0)),
 p (.bsl 1 [.k (.str [115,116,97,114,116]),.r 2,.r 0]),
 p (.call false (.k (.fn 10 [] [])) [.r 0]),
 p (.mov (.r 0))] [(2,.r 0)])
 .ret)
 (.seq
 (.reg false [p (.bin .eql (.v 24) (.k (.int .i64 3))),
 p (.mov (.r 0))] [(3,.v 3),(24,.v 24),(65,.r 0)])
 (.cond (.v 65)
 (.seq
 (.reg false [p (.bsl 1 [.k (.str [112,111,108,108])]),
 p (.call false (.k (.fn 10 [] [])) [.r 0]),
 p (.mov (.r 0))] [(2,.r 0)])
 .ret)
 (.seq
 (.reg false [p (.bin .eql (.v 24) (.k (.int .i64 4))),
 p (.mov (.r 0))] [(3,.v 3),(24,.v 24),(69,.r 0)])
 (.cond (.v 69)
 (.seq
 (.reg false [p (.fad 3 (.v 3)),
 p (.load (none) (.r 0)),
 p (.call true (.k (.fn 11 [] [])) [.r 0]),
 p (.bsl 1 [.k (.str [98,101,97,116]),.r 0]),
 p (.call false (.k (.fn 10 [] [])) [.r 0]),
 p (.mov (.r 0))] [(2,.r 0)])
 .ret)
 (.seq
 (.reg false [p (.bin .eql (.v 24) (.k (.int .i64 5))),
 p (.mov (.r 0))] [(3,.v 3),(24,.v 24),(76,.r 0)])
 (.cond (.v 76)
 (.seq
 (.seq
 (.reg false [p (.fad 5 (.v 3)),
 p (.load (none) (.r 0)),
 p (.bin .eql (.r 0) (.k (.str [])))] [(3,.v 3),(80,.r 0)])
 (.cond (.v 80)
 (.seq
 (.reg false [p (.fad 3 (.v 3)),
 p (.load (none) (.r 0)),
 p (.call true (.k (.fn 11 [] [])) [.r 0]),
 p (.bsl 1 [.k (.str [100,111,110,101]),.r 0]),
 p (.call false (.k (.fn 10 [] [])) [.r 0]),
 p (.mov (.r 0))] [(2,.r 0)])
 .ret)
 .skip))
 (.seq
 (.reg true [p (.fad 3 (.v 3)),
 p (.load (none) (.r 0)),
 p (.call true (.k (.fn 11 [] [])) [.r 0]),
 p (.fad 5 (.v 3)),
 p (.load (none) (.r 0)),
 p (.bsl 1 [.k (.str [100,111,110,101]),.r 2,.r 0]),
 p (.call false (.k (.fn 10 [] [])) [.r 0]),
 p (.mov (.r 0))] [(2,.r 0)])
 .ret))
 (.seq
 (.reg false [p (.bin .eql (.v 24) (.k (.int .i64 6))),
 p (.mov (.r 0))] [(3,.v 3),(24,.v 24),(93,.r 0)])
 (.cond (.v 93)
 (.seq
 (.reg false [p (.fad 3 (.v 3)),
 p (.load (none) (.r 0)),
 p (.call true (.k (.fn 11 [] [])) [.r 0]),
 p (.bsl 1 [.k (.str [102,97,105,108]),.r 0]),
 p (.call false (.k (.fn 10 [] [])) [.r 0]),
 p (.mov (.r 0))] [(2,.r 0)])
 .ret)
 (.seq
 (.reg false [p (.bin .eql (.v 24) (.k (.int .i64 7))),
 p (.mov (.r 0))] [(3,.v 3),(24,.v 24),(100,.r 0)])
 (.cond (.v 100)
 (.seq
 (.reg false [p (.fad 1 (.v 3)),
 p (.load (none) (.r 0)),
 p (.bsl 1 [.k (.str [99,97,110,99,101,108]),.r 0]),
 p (.call false (.k (.fn 10 [] [])) [.r 0]),
 p (.mov (.r 0))] [(2,.r 0)])
 .ret)
 (.seq
 (.reg false [p (.bin .eql (.v 24) (.k (.int .i64 8))),
 p (.mov (.r 0))] [(3,.v 3),(24,.v 24),(106,.r 0)])
 (.cond (.v 106)
 (.seq
 (.reg false [p (.fad 4 (.v 3)),
 p (.load (none) (.r 0)),
 p (.call true (.k (.fn 11 [] [])) [.r 0]),
 p (.bsl 1 [.k (.str [116,105,99,107]),.r 0]),
 p (.call false (.k (.fn 10 [] [])) [.r 0]),
 p (.mov (.r 0))] [(2,.r 0)])
 .ret)
 (.seq
 (.reg false [p (.bin .eql (.v 24) (.k (.int .i64 9))),
 p (.mov (.r 0))] [(3,.v 3),(113,.r 0)])
 (.cond (.v 113)
 (.seq
 (.reg false [p (.fad 1 (.v 3)),
 p (.load (none) (.r 0)),
 p (.bsl 1 [.k (.str [115,116,97,116,101]),.r 0]),
 p (.call false (.k (.fn 10 [] [])) [.r 0]),
 p (.mov (.r 0))] [(2,.r 0)])
 .ret)
 .skip))))))))))))))))))))
 (.frz
 (.seq
 (.reg false [p (.bsl 1 [.k (.str [115,121,110,99])]),
 p (.call false (.k (.fn 10 [] [])) [.r 0]),
 p (.mov (.r 0))] [(2,.r 0)])
 .ret))))))
def r12:List RV:=[.t 2]
theorem en12:EnP Tryd.prog 12 121 c12 r12:=mkEnP (by kernel_rfl) Tryd.func12 (by kernel_rfl) ⟨_,rfl,by kernel_rfl,by kernel_rfl⟩
def c36:C :=
  (.seq
 (.reg false [p (.mov (.k (.bool false)))] [(0,.v 0)])
 (.seq
 (.seq
 (.reg false [p (.mov (.k (.int .i64 0)))] [(0,.v 0),(3,.r 0)])
 (.block 0
 (.loop
 (.seq
 (.seq
 (.reg false [p (.mov (.v 3)),
 p (.mov (.v 0)),
 p (.len true (.r 0)),
 p (.bin .lss (.r 2) (.r 0))] [(0,.v 0),(3,.v 3),(7,.r 0)])
 (.cond (.v 7)
 .skip
 (.exit 0)))
 (.seq
 (.block 1
 (.seq
 (.reg false [p (.mov (.v 0)),
 p (.mov (.v 3)),
 p (.ixs (.r 1) (.r 0)),
 p (.bin .lss (.r 0) (.k (.int .u8 97))),
 p (.mov (.r 0)),
 ⟨.mov (.v 0),some (0,false),[]⟩,
 ⟨.mov (.v 3),some (1,false),[]⟩,
 ⟨.ixs (.r 1) (.r 0),some (2,false),[]⟩,
 ⟨.bin .gtr (.r 0) (.k (.int .u8 122)),some (3,false),[]⟩,
 p (.pick (.r 4) (.k (.bool true)) (.r 0))] [(0,.v 0),(3,.v 3),(19,.r 0)])
 (.cond (.v 19)
 (.seq
 (.reg false [p (.mov (.k (.bool false)))] [(2,.r 0)])
 .ret)
 .skip)))
 (.reg false [p (.mov (.v 3)),
 p (.bin .add (.r 0) (.k (.int .i64 1))),
 p (.mov (.r 0))] [(0,.v 0),(3,.r 0)]))))))
 (.frz
 (.seq
 (.reg false [p (.mov (.v 0)),
 p (.len true (.r 0)),
 p (.bin .geq (.r 0) (.k (.int .i64 1))),
 p (.mov (.r 0)),
 ⟨.mov (.v 0),some (0,true),[]⟩,
 ⟨.len true (.r 0),some (1,true),[]⟩,
 ⟨.bin .leq (.r 0) (.k (.int .i64 16)),some (2,true),[]⟩,
 p (.pick (.r 3) (.r 0) (.k (.bool false))),
 p (.mov (.r 0))] [(2,.r 0)])
 .ret))))
def r36:List RV:=[.t 2]
theorem en36:EnP Tryd.prog 36 28 c36 r36:=mkEnP (by kernel_rfl) Tryd.func36 (by kernel_rfl) ⟨_,rfl,by kernel_rfl,by kernel_rfl⟩
def c23:C :=
  (.seq
 (.reg false [p (.box 8 (.v 0)),
 p (.mov (.k (.bool false)))] [(1,.r 1)])
 (.seq
 (.reg false [p (.load (some 8) (.v 1)),
 p (.build [.int .i64 0,.str [],.str [],.int .i64 0,.int .i64 0,.str [],.str [],.fsl .nil 4 []] []),
 p (.call true (.k (.fn 34 [] [])) [.r 1,.r 0]),
 p (.mov (.r 0))] [(2,.r 0)])
 .ret))
def r23:List RV:=[.t 2]
theorem en23:EnP Tryd.prog 23 6 c23 r23:=mkEnP (by kernel_rfl) Tryd.func23 (by kernel_rfl) ⟨_,rfl,by kernel_rfl,by kernel_rfl⟩
def c24:C :=
  (.seq
 (.reg false [p (.box 8 (.v 0)),
 p (.mov (.k (.bool false)))] [(1,.r 1)])
 (.seq
 (.reg false [p (.load (some 8) (.v 1)),
 p (.call true (.k (.fn 35 [] [])) [.r 0]),
 p (.mov (.r 0)),
 p (.ext (.r 0) 0),
 p (.ext (.r 1) 1),
 p (.mov (.r 1)),
 p (.mov (.r 1))] [(1,.v 1),(4,.r 0)])
 (.seq
 (.seq
 (.reg false [p (.mov (.v 4)),
 p (.bin .neq (.r 0) (.k (.int .i64 0))),
 p (.mov (.r 0)),
 ⟨.fad 3 (.v 1),some (0,false),[]⟩,
 ⟨.load (none) (.r 0),some (1,false),[]⟩,
 ⟨.bin .gtr (.r 0) (.k (.int .i64 1099511627776)),some (2,false),[]⟩,
 p (.pick (.r 3) (.k (.bool true)) (.r 0)),
 p (.mov (.r 0)),
 ⟨.fad 4 (.v 1),some (0,false),[]⟩,
 ⟨.load (none) (.r 0),some (1,false),[]⟩,
 ⟨.bin .gtr (.r 0) (.k (.int .i64 1099511627776)),some (2,false),[]⟩,
 p (.pick (.r 3) (.k (.bool true)) (.r 0))] [(1,.v 1),(21,.r 0)])
 (.cond (.v 21)
 (.seq
 (.reg false [p (.mov (.k (.bool false)))] [(2,.r 0)])
 .ret)
 .skip))
 (.seq
 (.seq
 (.reg false [p (.fad 0 (.v 1)),
 p (.load (none) (.r 0)),
 p (.bin .eql (.r 0) (.k (.int .i64 1)))] [(1,.v 1),(24,.r 0)])
 (.cond (.v 24)
 (.seq
 (.reg false [p (.fad 6 (.v 1)),
 p (.fad 0 (.r 0)),
 p (.load (none) (.r 0)),
 p (.call true (.k (.fn 36 [] [])) [.r 0]),
 p (.mov (.r 0))] [(2,.r 0)])
 .ret)
 .skip))
 (.seq
 (.seq
 (.reg false [p (.fad 0 (.v 1)),
 p (.load (none) (.r 0)),
 p (.bin .eql (.r 0) (.k (.int .i64 2)))] [(1,.v 1),(31,.r 0)])
 (.cond (.v 31)
 (.seq
 (.reg false [p (.fad 1 (.v 1)),
 p (.load (none) (.r 0)),
 p (.call true (.k (.fn 36 [] [])) [.r 0]),
 p (.mov (.r 0)),
 ⟨.fad 2 (.v 1),some (0,true),[]⟩,
 ⟨.load (none) (.r 0),some (1,true),[]⟩,
 ⟨.call true (.k (.fn 36 [] [])) [.r 0],some (2,true),[]⟩,
 p (.pick (.r 3) (.r 0) (.k (.bool false))),
 p (.mov (.r 0))] [(2,.r 0)])
 .ret)
 .skip))
 (.seq
 (.seq
 (.reg false [p (.fad 0 (.v 1)),
 p (.load (none) (.r 0)),
 p (.bin .eql (.r 0) (.k (.int .i64 5)))] [(1,.v 1),(42,.r 0)])
 (.cond (.v 42)
 (.seq
 (.reg false [p (.fad 5 (.v 1)),
 p (.load (none) (.r 0)),
 p (.bin .eql (.r 0) (.k (.str []))),
 p (.mov (.r 0)),
 ⟨.fad 5 (.v 1),some (0,false),[]⟩,
 ⟨.load (none) (.r 0),some (1,false),[]⟩,
 ⟨.call true (.k (.fn 36 [] [])) [.r 0],some (2,false),[]⟩,
 p (.pick (.r 3) (.k (.bool true)) (.r 0)),
 p (.mov (.r 0))] [(2,.r 0)])
 .ret)
 .skip))
 (.seq
 (.seq
 (.reg false [p (.fad 0 (.v 1)),
 p (.load (none) (.r 0)),
 p (.bin .eql (.r 0) (.k (.int .i64 7))),
 p (.mov (.r 0)),
 ⟨.fad 0 (.v 1),some (0,false),[]⟩,
 ⟨.load (none) (.r 0),some (1,false),[]⟩,
 ⟨.bin .eql (.r 0) (.k (.int .i64 9)),some (2,false),[]⟩,
 p (.pick (.r 3) (.k (.bool true)) (.r 0))] [(1,.v 1),(58,.r 0)])
 (.cond (.v 58)
 (.seq
 (.reg false [p (.fad 1 (.v 1)),
 p (.load (none) (.r 0)),
 p (.call true (.k (.fn 36 [] [])) [.r 0]),
 p (.mov (.r 0))] [(2,.r 0)])
 .ret)
 .skip))
 (.seq
 (.reg false [p (.mov (.k (.bool true)))] [(2,.r 0)])
 .ret))))))))
def r24:List RV:=[.t 2]
theorem en24:EnP Tryd.prog 24 62 c24 r24:=mkEnP (by kernel_rfl) Tryd.func24 (by kernel_rfl) ⟨_,rfl,by kernel_rfl,by kernel_rfl⟩
def c14:C :=
  (.seq
 (.reg false [p (.box 11 (.v 0)),
 p (.mov (.k (.bool false)))] [(1,.r 1)])
 (.seq
 (.seq
 (.reg false [p (.fad 10 (.v 1)),
 p (.load (none) (.r 0)),
 p (.len false (.r 0)),
 p (.mov (.k (.int .i64 0)))] [(1,.v 1),(6,.r 2),(7,.r 1),(8,.r 0)])
 (.block 0
 (.loop
 (.seq
 (.reg false [p (.bin .lss (.v 8) (.v 7))] [(1,.v 1),(6,.v 6),(7,.v 7),(8,.v 8),(9,.r 0)])
 (.seq
 (.cond (.v 9)
 .skip
 (.exit 0))
 (.seq
 (.block 1
 (.seq
 (.reg false [p (.iad 1 (.v 6) (.v 8)),
 p (.load (none) (.r 0)),
 p (.mov (.r 0))] [(1,.v 1),(4,.r 0),(6,.v 6),(7,.v 7),(8,.v 8)])
 (.seq
 (.reg false [p (.mov (.v 4)),
 p (.bin .lss (.r 0) (.k (.int .i64 0))),
 p (.mov (.r 0)),
 ⟨.mov (.v 4),some (0,false),[]⟩,
 ⟨.bin .gtr (.r 0) (.k (.int .i64 255)),some (1,false),[]⟩,
 p (.pick (.r 2) (.k (.bool true)) (.r 0)),
 p (.mov (.r 0)),
 ⟨.fad 9 (.v 1),some (0,false),[]⟩,
 ⟨.load (none) (.r 0),some (1,false),[]⟩,
 ⟨.un .not (.r 0),some (2,false),[]⟩,
 p (.pick (.r 3) (.k (.bool true)) (.r 0))] [(1,.v 1),(6,.v 6),(7,.v 7),(8,.v 8),(22,.r 0)])
 (.cond (.v 22)
 (.seq
 (.reg false [p (.mov (.k (.bool false)))] [(2,.r 0)])
 .ret)
 .skip))))
 (.reg false [p (.bin .add (.v 8) (.k (.int .i64 1))),
 p (.mov (.r 0))] [(1,.v 1),(6,.v 6),(7,.v 7),(8,.r 0)])))))))
 (.frz
 (.seq
 (.seq
 (.reg false [p (.fad 9 (.v 1)),
 p (.load (none) (.r 0))] [(1,.v 1),(25,.r 0)])
 (.cond (.v 25)
 (.seq
 (.reg false [p (.fad 8 (.v 1)),
 p (.load (none) (.r 0)),
 p (.un .not (.r 0)),
 p (.mov (.r 0)),
 ⟨.fad 0 (.v 1),some (0,true),[]⟩,
 ⟨.load (some 8) (.r 0),some (1,true),[]⟩,
 ⟨.call true (.k (.fn 23 [] [])) [.r 0],some (2,true),[]⟩,
 p (.pick (.r 3) (.r 0) (.k (.bool false))),
 p (.mov (.r 0)),
 ⟨.fad 10 (.v 1),some (0,true),[]⟩,
 ⟨.load (none) (.r 0),some (1,true),[]⟩,
 ⟨.len false (.r 0),some (2,true),[]⟩,
 ⟨.bin .leq (.r 0) (.k (.int .i64 64)),some (3,true),[]⟩,
 p (.pick (.r 4) (.r 0) (.k (.bool false))),
 p (.mov (.r 0))] [(2,.r 0)])
 .ret)
 .skip))
 (.seq
 (.seq
 (.reg false [p (.fad 8 (.v 1)),
 p (.load (none) (.r 0))] [(1,.v 1),(41,.r 0)])
 (.cond (.v 41)
 (.seq
 (.reg false [p (.fad 0 (.v 1)),
 p (.load (some 8) (.r 0)),
 p (.call true (.k (.fn 23 [] [])) [.r 0]),
 p (.mov (.r 0))] [(2,.r 0)])
 .ret)
 .skip))
 (.seq
 (.reg false [p (.fad 0 (.v 1)),
 p (.load (some 8) (.r 0)),
 p (.call true (.k (.fn 24 [] [])) [.r 0]),
 p (.mov (.r 0))] [(2,.r 0)])
 .ret))))))
def r14:List RV:=[.t 2]
theorem en14:EnP Tryd.prog 14 48 c14 r14:=mkEnP (by kernel_rfl) Tryd.func14 (by kernel_rfl) ⟨_,rfl,by kernel_rfl,by kernel_rfl⟩
def c5:C :=
  (.seq
 (.reg false [p (.box 2 (.v 0)),
 p (.mov (.k (.bool false)))] [(1,.r 1)])
 (.seq
 (.seq
 (.reg false [p (.fad 1 (.v 1)),
 p (.load (none) (.r 0)),
 p (.len false (.r 0)),
 p (.mov (.k (.int .i64 0)))] [(1,.v 1),(6,.r 2),(7,.r 1),(8,.r 0)])
 (.block 0
 (.loop
 (.seq
 (.reg false [p (.bin .lss (.v 8) (.v 7))] [(1,.v 1),(6,.v 6),(7,.v 7),(8,.v 8),(9,.r 0)])
 (.seq
 (.cond (.v 9)
 .skip
 (.exit 0))
 (.seq
 (.block 1
 (.seq
 (.reg false [p (.iad 11 (.v 6) (.v 8)),
 p (.load (some 11) (.r 0)),
 p (.alloc 11 (.agg [.int .i64 0,.str [],.str [],.int .i64 0,.int .i64 0,.str [],.str [],.fsl .nil 4 [],.bool false,.bool false,.fsl .nil 1 []])),
 p (.store (some 11) (.r 0) (.r 1))] [(1,.v 1),(4,.r 1),(6,.v 6),(7,.v 7),(8,.v 8)])
 (.seq
 (.reg false [p (.load (some 11) (.v 4)),
 p (.call true (.k (.fn 14 [] [])) [.r 0]),
 p (.un .not (.r 0))] [(1,.v 1),(6,.v 6),(7,.v 7),(8,.v 8),(14,.r 0)])
 (.cond (.v 14)
 (.seq
 (.reg false [p (.mov (.k (.bool false)))] [(2,.r 0)])
 .ret)
 .skip))))
 (.reg false [p (.bin .add (.v 8) (.k (.int .i64 1))),
 p (.mov (.r 0))] [(1,.v 1),(6,.v 6),(7,.v 7),(8,.r 0)])))))))
 (.frz
 (.seq
 (.reg false [p (.fad 0 (.v 1)),
 p (.load (none) (.r 0)),
 p (.bin .geq (.r 0) (.k (.int .i64 24))),
 p (.mov (.r 0)),
 ⟨.fad 0 (.v 1),some (0,true),[]⟩,
 ⟨.load (none) (.r 0),some (1,true),[]⟩,
 ⟨.bin .leq (.r 0) (.k (.int .i64 200)),some (2,true),[]⟩,
 p (.pick (.r 3) (.r 0) (.k (.bool false))),
 p (.mov (.r 0)),
 ⟨.fad 1 (.v 1),some (0,true),[]⟩,
 ⟨.load (none) (.r 0),some (1,true),[]⟩,
 ⟨.len false (.r 0),some (2,true),[]⟩,
 ⟨.bin .leq (.r 0) (.k (.int .i64 200)),some (3,true),[]⟩,
 p (.pick (.r 4) (.r 0) (.k (.bool false))),
 p (.mov (.r 0))] [(2,.r 0)])
 .ret))))
def r5:List RV:=[.t 2]
theorem en5:EnP Tryd.prog 5 30 c5 r5:=mkEnP (by kernel_rfl) Tryd.func5 (by kernel_rfl) ⟨_,rfl,by kernel_rfl,by kernel_rfl⟩
def c30:C :=
  (.seq
 (.reg false [p (.box 2 (.v 0)),
 p (.mov (.k (.str [])))] [(1,.r 1)])
 (.seq
 (.reg false [p (.fad 0 (.v 1)),
 p (.load (none) (.r 0)),
 p (.bin .add (.k (.str [103,114,97,112,104,32])) (.r 0)),
 p (.mov (.r 0))] [(1,.v 1),(3,.r 0)])
 (.seq
 (.seq
 (.reg false [p (.fad 1 (.v 1)),
 p (.load (none) (.r 0)),
 p (.len false (.r 0)),
 p (.mov (.k (.int .i64 0)))] [(3,.v 3),(12,.r 2),(13,.r 1),(14,.r 0)])
 (.block 0
 (.loop
 (.seq
 (.reg false [p (.bin .lss (.v 14) (.v 13))] [(3,.v 3),(12,.v 12),(13,.v 13),(14,.v 14),(15,.r 0)])
 (.seq
 (.cond (.v 15)
 .skip
 (.exit 0))
 (.seq
 (.block 1
 (.seq
 (.reg false [p (.iad 4 (.v 12) (.v 14)),
 p (.load (some 4) (.r 0)),
 p (.alloc 4 (.agg [.fsl .nil 1 [],.int .i64 0,.int .i64 0,.int .i64 0])),
 p (.store (some 4) (.r 0) (.r 1))] [(3,.v 3),(5,.r 1),(12,.v 12),(13,.v 13),(14,.v 14)])
 (.seq
 (.reg true [p (.mov (.v 3)),
 p (.bin .add (.r 0) (.k (.str [32]))),
 p (.fad 1 (.v 5)),
 p (.load (none) (.r 0)),
 p (.call true (.k (.fn 11 [] [])) [.r 0]),
 p (.bin .add (.r 3) (.r 0)),
 p (.bin .add (.r 0) (.k (.str [44]))),
 p (.fad 2 (.v 5)),
 p (.load (none) (.r 0)),
 p (.call true (.k (.fn 11 [] [])) [.r 0]),
 p (.bin .add (.r 3) (.r 0)),
 p (.bin .add (.r 0) (.k (.str [44]))),
 p (.fad 3 (.v 5)),
 p (.load (none) (.r 0)),
 p (.call true (.k (.fn 11 [] [])) [.r 0]),
 p (.bin .add (.r 3) (.r 0)),
 p (.mov (.r 0))] [(3,.r 0),(5,.v 5),(12,.v 12),(13,.v 13),(14,.v 14)])
 (.seq
 (.reg false [p (.fad 0 (.v 5)),
 p (.load (none) (.r 0)),
 p (.len false (.r 0)),
 p (.mov (.k (.int .i64 0)))] [(3,.v 3),(12,.v 12),(13,.v 13),(14,.v 14),(35,.r 2),(36,.r 1),(37,.r 0)])
 (.block 2
 (.loop
 (.seq
 (.reg false [p (.bin .lss (.v 37) (.v 36))] [(3,.v 3),(12,.v 12),(13,.v 13),(14,.v 14),(35,.v 35),(36,.v 36),(37,.v 37),(38,.r 0)])
 (.seq
 (.cond (.v 38)
 .skip
 (.exit 2))
 (.seq
 (.block 3
 (.seq
 (.reg false [p (.iad 1 (.v 35) (.v 37)),
 p (.load (none) (.r 0)),
 p (.mov (.r 0))] [(3,.v 3),(7,.r 0),(12,.v 12),(13,.v 13),(14,.v 14),(35,.v 35),(36,.v 36),(37,.v 37)])
 (.reg false [p (.mov (.v 3)),
 p (.bin .add (.r 0) (.k (.str [44]))),
 p (.mov (.v 7)),
 p (.call true (.k (.fn 11 [] [])) [.r 0]),
 p (.bin .add (.r 2) (.r 0)),
 p (.mov (.r 0))] [(3,.r 0),(12,.v 12),(13,.v 13),(14,.v 14),(35,.v 35),(36,.v 36),(37,.v 37)])))
 (.reg false [p (.bin .add (.v 37) (.k (.int .i64 1))),
 p (.mov (.r 0))] [(3,.v 3),(12,.v 12),(13,.v 13),(14,.v 14),(35,.v 35),(36,.v 36),(37,.r 0)]))))))))))
 (.frz
 (.reg false [p (.bin .add (.v 14) (.k (.int .i64 1))),
 p (.mov (.r 0))] [(3,.v 3),(12,.v 12),(13,.v 13),(14,.r 0)]))))))))
 (.frz
 (.seq
 (.reg false [p (.mov (.v 3)),
 p (.mov (.r 0))] [(2,.r 0)])
 .ret)))))
def r30:List RV:=[.t 2]
theorem en30:EnP Tryd.prog 30 49 c30 r30:=mkEnP (by kernel_rfl) Tryd.func30 (by kernel_rfl) ⟨_,rfl,by kernel_rfl,by kernel_rfl⟩
def c18:C :=
  (.seq
 (.reg false [p (.box 11 (.v 0)),
 p (.mov (.k (.str [])))] [(1,.r 1)])
 (.seq
 (.reg false [p (.fad 0 (.v 1)),
 p (.load (some 8) (.r 0)),
 p (.alloc 8 (.agg [.int .i64 0,.str [],.str [],.int .i64 0,.int .i64 0,.str [],.str [],.fsl .nil 4 []])),
 p (.store (some 8) (.r 0) (.r 1))] [(1,.v 1),(3,.r 1)])
 (.seq
 (.reg false [p (.fad 3 (.v 3)),
 p (.load (none) (.r 0)),
 p (.call true (.k (.fn 11 [] [])) [.r 0]),
 p (.mov (.r 0))] [(1,.v 1),(3,.v 3),(4,.r 0)])
 (.seq
 (.seq
 (.reg false [p (.fad 9 (.v 1)),
 p (.load (none) (.r 0))] [(1,.v 1),(3,.v 3),(4,.v 4),(14,.r 0)])
 (.cond (.v 14)
 (.seq
 (.reg false [p (.mov (.k (.str [99,114,97,115,104])))] [(1,.v 1),(5,.r 0)])
 (.seq
 (.seq
 (.reg false [p (.fad 10 (.v 1)),
 p (.load (none) (.r 0)),
 p (.len false (.r 0)),
 p (.mov (.k (.int .i64 0)))] [(5,.v 5),(16,.r 2),(17,.r 1),(18,.r 0)])
 (.block 0
 (.loop
 (.seq
 (.reg false [p (.bin .lss (.v 18) (.v 17))] [(5,.v 5),(16,.v 16),(17,.v 17),(18,.v 18),(19,.r 0)])
 (.seq
 (.cond (.v 19)
 .skip
 (.exit 0))
 (.seq
 (.block 1
 (.seq
 (.reg false [p (.iad 1 (.v 16) (.v 18)),
 p (.load (none) (.r 0)),
 p (.mov (.r 0))] [(5,.v 5),(7,.r 0),(16,.v 16),(17,.v 17),(18,.v 18)])
 (.reg false [p (.mov (.v 5)),
 p (.bin .add (.r 0) (.k (.str [32]))),
 p (.mov (.v 7)),
 p (.call true (.k (.fn 11 [] [])) [.r 0]),
 p (.bin .add (.r 2) (.r 0)),
 p (.mov (.r 0))] [(5,.r 0),(16,.v 16),(17,.v 17),(18,.v 18)])))
 (.reg false [p (.bin .add (.v 18) (.k (.int .i64 1))),
 p (.mov (.r 0))] [(5,.v 5),(16,.v 16),(17,.v 17),(18,.r 0)])))))))
 (.frz
 (.seq
 (.reg false [p (.mov (.v 5)),
 p (.mov (.r 0))] [(2,.r 0)])
 .ret))))
 .skip))
 (.frz
 (.seq
 (.seq
 (.reg false [p (.fad 8 (.v 1)),
 p (.load (none) (.r 0))] [(3,.v 3),(4,.v 4),(30,.r 0)])
 (.cond (.v 30)
 (.seq
 (.reg false [p (.mov (.k (.str [99,104,101,99,107])))] [(2,.r 0)])
 .ret)
 .skip))
 (.seq
 (.seq
 (.reg false [p (.fad 0 (.v 3)),
 p (.load (none) (.r 0))] [(3,.v 3),(4,.v 4),(32,.r 0)])
 (.block 2
 (.seq
 (.reg false [p (.bin .eql (.v 32) (.k (.int .i64 1))),
 p (.mov (.r 0))] [(3,.v 3),(4,.v 4),(32,.v 32),(33,.r 0)])
 (.cond (.v 33)
 (.seq
 (.reg false [p (.fad 6 (.v 3)),
 p (.load (some 2) (.r 0)),
 p (.call true (.k (.fn 30 [] [])) [.r 0]),
 p (.mov (.r 0))] [(2,.r 0)])
 .ret)
 (.seq
 (.reg false [p (.bin .eql (.v 32) (.k (.int .i64 2))),
 p (.mov (.r 0))] [(3,.v 3),(4,.v 4),(32,.v 32),(38,.r 0)])
 (.cond (.v 38)
 (.seq
 (.reg false [p (.fad 1 (.v 3)),
 p (.load (none) (.r 0)),
 p (.bin .add (.k (.str [115,116,97,114,116,32])) (.r 0)),
 p (.bin .add (.r 0) (.k (.str [32]))),
 p (.fad 2 (.v 3)),
 p (.load (none) (.r 0)),
 p (.bin .add (.r 2) (.r 0)),
 p (.mov (.r 0))] [(2,.r 0)])
 .ret)
 (.seq
 (.reg false [p (.bin .eql (.v 32) (.k (.int .i64 3))),
 p (.mov (.r 0))] [(3,.v 3),(4,.v 4),(32,.v 32),(47,.r 0)])
 (.cond (.v 47)
 (.seq
 (.reg false [p (.mov (.k (.str [112,111,108,108])))] [(2,.r 0)])
 .ret)
 (.seq
 (.reg false [p (.bin .eql (.v 32) (.k (.int .i64 4))),
 p (.mov (.r 0))] [(3,.v 3),(4,.v 4),(32,.v 32),(49,.r 0)])
 (.cond (.v 49)
 (.seq
 (.reg false [p (.mov (.v 4)),
 p (.bin .add (.k (.str [98,101,97,116,32])) (.r 0)),
 p (.mov (.r 0))] [(2,.r 0)])
 .ret)
 (.seq
 (.reg false [p (.bin .eql (.v 32) (.k (.int .i64 5))),
 p (.mov (.r 0))] [(3,.v 3),(4,.v 4),(32,.v 32),(53,.r 0)])
 (.cond (.v 53)
 (.seq
 (.seq
 (.reg false [p (.fad 5 (.v 3)),
 p (.load (none) (.r 0)),
 p (.bin .neq (.r 0) (.k (.str [])))] [(3,.v 3),(4,.v 4),(57,.r 0)])
 (.cond (.v 57)
 (.seq
 (.reg false [p (.mov (.v 4)),
 p (.bin .add (.k (.str [100,111,110,101,32])) (.r 0)),
 p (.bin .add (.r 0) (.k (.str [32]))),
 p (.fad 5 (.v 3)),
 p (.load (none) (.r 0)),
 p (.bin .add (.r 2) (.r 0)),
 p (.mov (.r 0))] [(2,.r 0)])
 .ret)
 .skip))
 (.seq
 (.reg false [p (.mov (.v 4)),
 p (.bin .add (.k (.str [100,111,110,101,32])) (.r 0)),
 p (.mov (.r 0))] [(2,.r 0)])
 .ret))
 (.seq
 (.reg false [p (.bin .eql (.v 32) (.k (.int .i64 6))),
 p (.mov (.r 0))] [(3,.v 3),(4,.v 4),(32,.v 32),(66,.r 0)])
 (.cond (.v 66)
 (.seq
 (.reg false [p (.mov (.v 4)),
 p (.bin .add (.k (.str [102,97,105,108,32])) (.r 0)),
 p (.mov (.r 0))] [(2,.r 0)])
 .ret)
 (.seq
 (.reg false [p (.bin .eql (.v 32) (.k (.int .i64 7))),
 p (.mov (.r 0))] [(3,.v 3),(32,.v 32),(70,.r 0)])
 (.cond (.v 70)
 (.seq
 (.reg false [p (.fad 1 (.v 3)),
 p (.load (none) (.r 0)),
 p (.bin .add (.k (.str [99,97,110,99,101,108,32])) (.r 0)),
 p (.mov (.r 0))] [(2,.r 0)])
 .ret)
 (.seq
 (.reg false [p (.bin .eql (.v 32) (.k (.int .i64 8))),
 p (.mov (.r 0))] [(3,.v 3),(32,.v 32),(75,.r 0)])
 (.cond (.v 75)
 (.seq
 (.reg false [p (.fad 4 (.v 3)),
 p (.load (none) (.r 0)),
 p (.call true (.k (.fn 11 [] [])) [.r 0]),
 p (.bin .add (.k (.str [116,105,99,107,32])) (.r 0)),
 p (.mov (.r 0))] [(2,.r 0)])
 .ret)
 (.seq
 (.reg false [p (.bin .eql (.v 32) (.k (.int .i64 9))),
 p (.mov (.r 0))] [(3,.v 3),(81,.r 0)])
 (.cond (.v 81)
 (.seq
 (.reg false [p (.fad 1 (.v 3)),
 p (.load (none) (.r 0)),
 p (.bin .add (.k (.str [115,116,97,116,101,32])) (.r 0)),
 p (.mov (.r 0))] [(2,.r 0)])
 .ret)
 .skip))))))))))))))))))))
 (.seq
 (.reg false [p (.mov (.k (.str [115,121,110,99])))] [(2,.r 0)])
 .ret))))))))
def r18:List RV:=[.t 2]
theorem en18:EnP Tryd.prog 18 86 c18 r18:=mkEnP (by kernel_rfl) Tryd.func18 (by kernel_rfl) ⟨_,rfl,by kernel_rfl,by kernel_rfl⟩
def c8:C :=
  (.seq
 (.reg false [p (.box 2 (.v 0)),
 p (.mov (.k (.str [])))] [(1,.r 1)])
 (.seq
 (.reg false [p (.fad 0 (.v 1)),
 p (.load (none) (.r 0)),
 p (.call true (.k (.fn 11 [] [])) [.r 0]),
 p (.bin .add (.k (.str [115,105,122,101,32])) (.r 0)),
 p (.bin .add (.r 0) (.k (.str [10]))),
 p (.mov (.r 0))] [(1,.v 1),(3,.r 0)])
 (.seq
 (.seq
 (.reg false [p (.fad 1 (.v 1)),
 p (.load (none) (.r 0)),
 p (.len false (.r 0)),
 p (.mov (.k (.int .i64 0)))] [(3,.v 3),(12,.r 2),(13,.r 1),(14,.r 0)])
 (.block 0
 (.loop
 (.seq
 (.reg false [p (.bin .lss (.v 14) (.v 13))] [(3,.v 3),(12,.v 12),(13,.v 13),(14,.v 14),(15,.r 0)])
 (.seq
 (.cond (.v 15)
 .skip
 (.exit 0))
 (.seq
 (.block 1
 (.seq
 (.reg false [p (.iad 11 (.v 12) (.v 14)),
 p (.load (some 11) (.r 0)),
 p (.alloc 11 (.agg [.int .i64 0,.str [],.str [],.int .i64 0,.int .i64 0,.str [],.str [],.fsl .nil 4 [],.bool false,.bool false,.fsl .nil 1 []])),
 p (.store (some 11) (.r 0) (.r 1))] [(3,.v 3),(5,.r 1),(12,.v 12),(13,.v 13),(14,.v 14)])
 (.reg false [p (.mov (.v 3)),
 p (.load (some 11) (.v 5)),
 p (.call true (.k (.fn 18 [] [])) [.r 0]),
 p (.bin .add (.r 2) (.r 0)),
 p (.bin .add (.r 0) (.k (.str [10]))),
 p (.mov (.r 0))] [(3,.r 0),(12,.v 12),(13,.v 13),(14,.v 14)])))
 (.reg false [p (.bin .add (.v 14) (.k (.int .i64 1))),
 p (.mov (.r 0))] [(3,.v 3),(12,.v 12),(13,.v 13),(14,.r 0)])))))))
 (.frz
 (.seq
 (.reg false [p (.mov (.v 3)),
 p (.mov (.r 0))] [(2,.r 0)])
 .ret)))))
def r8:List RV:=[.t 2]
theorem en8:EnP Tryd.prog 8 25 c8 r8:=mkEnP (by kernel_rfl) Tryd.func8 (by kernel_rfl) ⟨_,rfl,by kernel_rfl,by kernel_rfl⟩
def c6:C :=
  (.seq
 (.reg false [p (.mov (.k (.bool false)))] [])
 (.seq
 (.reg false [p (.build [.int .i64 0,.fsl .nil 11 []] [(0,1,.k (.int .i64 24))]),
 p (.call true (.k (.fn 7 [] [])) [.r 0]),
 p (.mov (.r 0))] [(0,.r 0)])
 .ret))
def r6:List RV:=[.t 0]
theorem en6:EnP Tryd.prog 6 3 c6 r6:=mkEnP (by kernel_rfl) Tryd.func6 (by kernel_rfl) ⟨_,rfl,by kernel_rfl,by kernel_rfl⟩
def c3:C :=
  (.seq
 (.reg false [p (.box 2 (.v 0)),
 p (.mov (.k (.bool false)))] [(1,.r 1)])
 (.seq
 (.reg false [p (.load (some 2) (.v 1)),
 p (.call true (.k (.fn 4 [] [])) [.r 0]),
 p (.mov (.r 0)),
 p (.ext (.r 0) 0),
 p (.ext (.r 1) 1),
 p (.mov (.r 1)),
 p (.mov (.r 1))] [(1,.v 1),(3,.r 1),(4,.r 0)])
 (.seq
 (.seq
 (.reg false [p (.load (some 2) (.v 1)),
 p (.call true (.k (.fn 5 [] [])) [.r 0]),
 p (.un .not (.r 0))] [(1,.v 1),(3,.v 3),(4,.v 4),(12,.r 0)])
 (.cond (.v 12)
 (.seq
 (.reg false [p (.call true (.k (.fn 6 [] [])) []),
 p (.mov (.r 0)),
 ⟨.load (some 2) (.v 1),some (0,true),[]⟩,
 ⟨.call true (.k (.fn 7 [] [])) [.r 0],some (1,true),[]⟩,
 ⟨.un .not (.r 0),some (2,true),[]⟩,
 p (.pick (.r 3) (.r 0) (.k (.bool false))),
 p (.mov (.r 0)),
 ⟨.mov (.v 4),some (0,true),[]⟩,
 ⟨.bin .eql (.r 0) (.k (.int .i64 1)),some (1,true),[]⟩,
 p (.pick (.r 2) (.r 0) (.k (.bool false))),
 p (.mov (.r 0)),
 ⟨.mov (.v 3),some (0,true),[]⟩,
 ⟨.bin .eql (.r 0) (.k (.str [])),some (1,true),[]⟩,
 p (.pick (.r 2) (.r 0) (.k (.bool false))),
 p (.mov (.r 0))] [(2,.r 0)])
 .ret)
 .skip))
 (.seq
 (.reg false [p (.call true (.k (.fn 6 [] [])) []),
 p (.mov (.r 0)),
 ⟨.load (some 2) (.v 1),some (0,true),[]⟩,
 ⟨.call true (.k (.fn 7 [] [])) [.r 0],some (1,true),[]⟩,
 p (.pick (.r 2) (.r 0) (.k (.bool false))),
 p (.mov (.r 0)),
 ⟨.mov (.v 4),some (0,true),[]⟩,
 ⟨.bin .eql (.r 0) (.k (.int .i64 0)),some (1,true),[]⟩,
 p (.pick (.r 2) (.r 0) (.k (.bool false))),
 p (.mov (.r 0)),
 ⟨.mov (.v 3),some (0,true),[]⟩,
 ⟨.load (some 2) (.v 1),some (1,true),[]⟩,
 ⟨.call true (.k (.fn 8 [] [])) [.r 0],some (2,true),[]⟩,
 ⟨.bin .eql (.r 2) (.r 0),some (3,true),[]⟩,
 p (.pick (.r 4) (.r 0) (.k (.bool false))),
 p (.mov (.r 0))] [(2,.r 0)])
 .ret))))
def r3:List RV:=[.t 2]
theorem en3:EnP Tryd.prog 3 42 c3 r3:=mkEnP (by kernel_rfl) Tryd.func3 (by kernel_rfl) ⟨_,rfl,by kernel_rfl,by kernel_rfl⟩
theorem p_none (c:Cmd):PCall Tryd.prog 26 [cmdV c] (.bool (noneC c)):=by
  refine en26 (by simp) (by simp [closedL,cmdV_closed]) ?_
  by_cases a0:c.kind=0
  case neg =>
    have e:noneC c=false:=decide_eq_false fun h => a0 h.1
    simp (maxSteps:=1000000) (disch:=omega) only [rg,gD,simprocAttr,c26,cmdV,tasksV,mv_len,a0]
    (refine fin_x rfl ?_ ?_<;>simp [pack,lo,loL,V.closed,closedL,mv_closed,e])
  by_cases a1:c.key=[]
  case neg =>
    have e:noneC c=false:=decide_eq_false fun h => a1 h.2.1
    simp (maxSteps:=1000000) (disch:=omega) only [rg,gD,simprocAttr,c26,cmdV,tasksV,mv_len,a0,a1]
    (refine fin_x rfl ?_ ?_<;>simp [pack,lo,loL,V.closed,closedL,mv_closed,e])
  by_cases a2:c.name=[]
  case neg =>
    have e:noneC c=false:=decide_eq_false fun h => a2 h.2.2.1
    simp (maxSteps:=1000000) (disch:=omega) only [rg,gD,simprocAttr,c26,cmdV,tasksV,mv_len,a0,a1,a2]
    (refine fin_x rfl ?_ ?_<;>simp [pack,lo,loL,V.closed,closedL,mv_closed,e])
  by_cases a3:c.token=0
  case neg =>
    have e:noneC c=false:=decide_eq_false fun h => a3 h.2.2.2.1
    simp (maxSteps:=1000000) (disch:=omega) only [rg,gD,simprocAttr,c26,cmdV,tasksV,mv_len,a0,a1,a2,a3]
    (refine fin_x rfl ?_ ?_<;>simp [pack,lo,loL,V.closed,closedL,mv_closed,e])
  by_cases a4:c.time=0
  case neg =>
    have e:noneC c=false:=decide_eq_false fun h => a4 h.2.2.2.2.1
    simp (maxSteps:=1000000) (disch:=omega) only [rg,gD,simprocAttr,c26,cmdV,tasksV,mv_len,a0,a1,a2,a3,a4]
    (refine fin_x rfl ?_ ?_<;>simp [pack,lo,loL,V.closed,closedL,mv_closed,e])
  by_cases a5:c.text=[]
  case neg =>
    have e:noneC c=false:=decide_eq_false fun h => a5 h.2.2.2.2.2.1
    simp (maxSteps:=1000000) (disch:=omega) only [rg,gD,simprocAttr,c26,cmdV,tasksV,mv_len,a0,a1,a2,a3,a4,a5]
    (refine fin_x rfl ?_ ?_<;>simp [pack,lo,loL,V.closed,closedL,mv_closed,e])
  by_cases a6:c.dag.name=[]
  case neg =>
    have e:noneC c=false:=decide_eq_false fun h => a6 h.2.2.2.2.2.2.1
    simp (maxSteps:=1000000) (disch:=omega) only [rg,gD,simprocAttr,c26,cmdV,tasksV,mv_len,a0,a1,a2,a3,a4,a5,a6]
    (refine fin_x rfl ?_ ?_<;>simp [pack,lo,loL,V.closed,closedL,mv_closed,e])
  by_cases a7:c.dag.tasks.length=0
  case neg =>
    have e:noneC c=false:=decide_eq_false fun h => a7 h.2.2.2.2.2.2.2
    simp (maxSteps:=1000000) (disch:=omega) only [rg,gD,simprocAttr,c26,cmdV,tasksV,mv_len,a0,a1,a2,a3,a4,a5,a6,show ¬ (c.dag.tasks.length:Int)=0 by omega]
    (refine fin_x rfl ?_ ?_<;>simp [pack,lo,loL,V.closed,closedL,mv_closed,e])
  have e:noneC c=true:=decide_eq_true ⟨a0,a1,a2,a3,a4,a5,a6,a7⟩
  simp (maxSteps:=1000000) (disch:=omega) only [rg,gD,simprocAttr,c26,cmdV,tasksV,mv_len,a0,a1,a2,a3,a4,a5,a6,show (c.dag.tasks.length:Int)=0 by omega]
  (refine fin_x rfl ?_ ?_<;>simp [pack,lo,loL,V.closed,closedL,mv_closed,e])
theorem p_command (c:Cmd) (hc:okCmd c):PCall Tryd.prog 29 [cmdV c] (.bool (lineCmd c)):=by
  refine en29 (by simp) (by simp [closedL,cmdV_closed]) ?_
  have kp:=frame_put c hc
  unfold cmdV tasksV at kp
  have kd:=dag_right c.dag hc.2.2.2.2.1 hc.2.2.2.1
  unfold dagV tasksV at kd
  by_cases hP:cmdP c
  case neg =>
    have e:cmdPutS c=([],1):=by rw [cmdPutS,if_neg hP]
    have el:lineCmd c=false:=by rw [lineCmd,decide_eq_false hP]; rfl
    rw [e] at kp
    simp (maxSteps:=1000000) (disch:=omega) only [rg,gD,simprocAttr,c29,cmdV,tasksV]
    refine ⟨_,kp, ?_⟩
    simp (maxSteps:=1000000) (disch:=omega) only [rg,gD,simprocAttr,sV]
    (refine fin_x rfl ?_ ?_<;>simp [pack,lo,loL,V.closed,closedL,mv_closed,el])
  have e:cmdPutS c=(sealS (cmdB c),0):=by rw [cmdPutS,if_pos hP]
  rw [e] at kp
  by_cases t1:(1099511627776:Int) < c.token
  · have el:lineCmd c=false:=by rw [lineCmd,timeOk,decide_eq_true hP,decide_eq_false (by omega)]; rfl
    simp (maxSteps:=1000000) (disch:=omega) only [rg,gD,simprocAttr,c29,cmdV,tasksV]
    refine ⟨_,kp, ?_⟩
    simp (maxSteps:=1000000) (disch:=omega) only [rg,gD,simprocAttr,sV,t1]
    (refine fin_x rfl ?_ ?_<;>simp [pack,lo,loL,V.closed,closedL,mv_closed,el])
  by_cases t2:(1099511627776:Int) < c.time
  · have el:lineCmd c=false:=by rw [lineCmd,timeOk,decide_eq_true hP,decide_eq_false (by omega)]; rfl
    simp (maxSteps:=1000000) (disch:=omega) only [rg,gD,simprocAttr,c29,cmdV,tasksV]
    refine ⟨_,kp, ?_⟩
    simp (maxSteps:=1000000) (disch:=omega) only [rg,gD,simprocAttr,sV,t1,t2]
    (refine fin_x rfl ?_ ?_<;>simp [pack,lo,loL,V.closed,closedL,mv_closed,el])
  have el:lineCmd c=wordsOk c:=by rw [lineCmd,timeOk,decide_eq_true hP,decide_eq_true (by omega)]; rfl
  simp (maxSteps:=1000000) (disch:=omega) only [rg,gD,simprocAttr,c29,cmdV,tasksV]
  refine ⟨_,kp, ?_⟩
  simp (maxSteps:=1000000) (disch:=omega) only [rg,gD,simprocAttr,sV,t1,t2]
  by_cases k1:c.kind=1
  · have e2:lineCmd c=nameB c.dag.name:=by rw [el,wordsOk,if_pos k1]
    have hd:dagRightS c.dag=0:=by rw [← right_same]; exact hP.2.2.2.2 k1
    rw [hd] at kd
    simp (maxSteps:=1000000) (disch:=omega) only [rg,gD,simprocAttr,k1]
    refine ⟨_,kd, ?_⟩
    simp (maxSteps:=1000000) (disch:=omega) only [rg,gD,simprocAttr]
    refine ⟨_,p_name _, ?_⟩
    simp (maxSteps:=1000000) (disch:=omega) only [rg,gD,simprocAttr]
    (refine fin_x rfl ?_ ?_<;>simp [pack,lo,loL,V.closed,closedL,mv_closed,e2])
  by_cases k2:c.kind=2
  · have e2:lineCmd c=(nameB c.key && nameB c.name):=by rw [el,wordsOk,if_neg k1,if_pos k2]
    simp (maxSteps:=1000000) (disch:=omega) only [rg,gD,simprocAttr,k1,k2]
    refine ⟨_,p_name _, ?_⟩
    cases hn:nameB c.key with
    | false =>
      rw [hn,Bool.false_and] at e2
      simp (maxSteps:=1000000) (disch:=omega) only [rg,gD,simprocAttr]
      (refine fin_x rfl ?_ ?_<;>simp [pack,lo,loL,V.closed,closedL,mv_closed,e2])
    | true =>
      rw [hn,Bool.true_and] at e2
      simp (maxSteps:=1000000) (disch:=omega) only [rg,gD,simprocAttr]
      refine ⟨_,p_name _, ?_⟩
      simp (maxSteps:=1000000) (disch:=omega) only [rg,gD,simprocAttr]
      (refine fin_x rfl ?_ ?_<;>simp [pack,lo,loL,V.closed,closedL,mv_closed,e2])
  by_cases k5:c.kind=5
  · by_cases x:c.text=[]
    · have e2:lineCmd c=true:=by rw [el,wordsOk,if_neg k1,if_neg k2,if_pos k5,decide_eq_true x]; rfl
      simp (maxSteps:=1000000) (disch:=omega) only [rg,gD,simprocAttr,k1,k2,k5,x]
      (refine fin_x rfl ?_ ?_<;>simp [pack,lo,loL,V.closed,closedL,mv_closed,e2])
    · have e2:lineCmd c=nameB c.text:=by rw [el,wordsOk,if_neg k1,if_neg k2,if_pos k5,decide_eq_false x]; rfl
      simp (maxSteps:=1000000) (disch:=omega) only [rg,gD,simprocAttr,k1,k2,k5,x]
      refine ⟨_,p_name _, ?_⟩
      simp (maxSteps:=1000000) (disch:=omega) only [rg,gD,simprocAttr]
      (refine fin_x rfl ?_ ?_<;>simp [pack,lo,loL,V.closed,closedL,mv_closed,e2])
  by_cases k7:c.kind=7
  · have e2:lineCmd c=nameB c.key:=by rw [el,wordsOk,if_neg k1,if_neg k2,if_neg k5,if_pos (.inl k7)]
    simp (maxSteps:=1000000) (disch:=omega) only [rg,gD,simprocAttr,k1,k2,k5,k7]
    refine ⟨_,p_name _, ?_⟩
    simp (maxSteps:=1000000) (disch:=omega) only [rg,gD,simprocAttr]
    (refine fin_x rfl ?_ ?_<;>simp [pack,lo,loL,V.closed,closedL,mv_closed,e2])
  by_cases k9:c.kind=9
  · have e2:lineCmd c=nameB c.key:=by rw [el,wordsOk,if_neg k1,if_neg k2,if_neg k5,if_pos (.inr k9)]
    simp (maxSteps:=1000000) (disch:=omega) only [rg,gD,simprocAttr,k1,k2,k5,k7,k9]
    refine ⟨_,p_name _, ?_⟩
    simp (maxSteps:=1000000) (disch:=omega) only [rg,gD,simprocAttr]
    (refine fin_x rfl ?_ ?_<;>simp [pack,lo,loL,V.closed,closedL,mv_closed,e2])
  have e2:lineCmd c=true:=by rw [el,wordsOk,if_neg k1,if_neg k2,if_neg k5,if_neg (by omega)]
  simp (maxSteps:=1000000) (disch:=omega) only [rg,gD,simprocAttr,k1,k2,k5,k7,k9]
  (refine fin_x rfl ?_ ?_<;>simp [pack,lo,loL,V.closed,closedL,mv_closed,e2])
theorem p_mask (H:Hp) (x:Int):ACall Tryd.prog 28 [.int .i64 x] H [] (.bool (!maskB x)) [] 0:=by
  refine ena28 (by simp) (by simp [lowL,V.low]) (by simp) (by simp) ?_
  by_cases a:x < 0
  · simp (maxSteps:=1000000) (disch:=omega) only [rg,gD,simprocAttr,c28,a]
    exact fin_A (l:=[.bool true]) rfl (.inl (by simp [pack,maskB]; omega)) (by simp) (fun id => .inr rfl)
  by_cases b:(255:Int) < x
  · simp (maxSteps:=1000000) (disch:=omega) only [rg,gD,simprocAttr,c28,a,b]
    exact fin_A (l:=[.bool true]) rfl (.inl (by simp [pack,maskB]; omega)) (by simp) (fun id => .inr rfl)
  simp (maxSteps:=1000000) (disch:=omega) only [rg,gD,simprocAttr,c28,a,b]
  exact fin_A (l:=[.bool false]) rfl (.inl (by simp [pack,maskB]; omega)) (by simp) (fun id => .inr rfl)
theorem any_not {α:Type} (l:List α) (q:α→Bool):(l.any fun x => !q x)=!l.all q:=by
  induction l with
  | nil => rfl
  | cons a l ih => simp [ih,Bool.not_and]
theorem p_step (s:Stp) (hc:okCmd s.cmd) (hm:s.masks.length≤4611686018427387904):PCall Tryd.prog 17 [stpV s] (.bool (stpB s)):=by
  refine en17 (by simp) (by simp [closedL,stpV_closed]) ?_
  have kn:=p_none s.cmd
  have kc:=p_command s.cmd hc
  unfold cmdV tasksV at kn kc
  obtain ⟨c,chk,cr,ms⟩:=s
  simp only at hc hm kn kc
  cases cr with
  | true =>
    cases chk with
    | true =>
      simp (maxSteps:=1000000) (disch:=omega) only [rg,gD,simprocAttr,c17,stpV,tasksV,vI_len]
      (refine fin_x rfl ?_ ?_<;>simp [pack,lo,loL,V.closed,closedL,mv_closed,stpB])
    | false =>
      simp (maxSteps:=1000000) (disch:=omega) only [rg,gD,simprocAttr,c17,stpV,tasksV,vI_len]
      refine ⟨_,kn, ?_⟩
      cases hn:noneC c with
      | false =>
        simp (maxSteps:=1000000) (disch:=omega) only [rg,gD,simprocAttr]
        (refine fin_x rfl ?_ ?_<;>simp [pack,lo,loL,V.closed,closedL,mv_closed,stpB,hn])
      | true =>
        by_cases h64:ms.length≤64
        · simp (maxSteps:=1000000) (disch:=omega) only [rg,gD,simprocAttr,vI_len,show (ms.length:Int)≤64 by omega]
          refine ⟨_,_,_,_,con_ints (rows:=ms) (q:=fun x => !maskB x) (fp:=[]) (kk:=0) (by omega) rfl rfl (FpOk.nil _) (fun x hx H' h1 h2 => p_mask H' x), ?_⟩
          rw [any_not]
          simp (maxSteps:=1000000) (disch:=omega) only [rg,gD,simprocAttr]
          (refine fin_x rfl ?_ ?_<;>simp [pack,lo,loL,V.closed,closedL,mv_closed,stpB,hn,h64])
        · simp (maxSteps:=1000000) (disch:=omega) only [rg,gD,simprocAttr,vI_len,show ¬ (ms.length:Int)≤64 by omega]
          (refine fin_x rfl ?_ ?_<;>simp [pack,lo,loL,V.closed,closedL,mv_closed,stpB,hn,h64])
  | false =>
    cases chk with
    | true =>
      simp (maxSteps:=1000000) (disch:=omega) only [rg,gD,simprocAttr,c17,stpV,tasksV,vI_len]
      refine ⟨_,kn, ?_⟩
      cases hn:noneC c with
      | false =>
        simp (maxSteps:=1000000) (disch:=omega) only [rg,gD,simprocAttr]
        (refine fin_x rfl ?_ ?_<;>simp [pack,lo,loL,V.closed,closedL,mv_closed,stpB,hn])
      | true =>
        by_cases h0:ms.length=0
        · simp (maxSteps:=1000000) (disch:=omega) only [rg,gD,simprocAttr,vI_len,show (ms.length:Int)=0 by omega]
          (refine fin_x rfl ?_ ?_<;>simp [pack,lo,loL,V.closed,closedL,mv_closed,stpB,hn,h0])
        · simp (maxSteps:=1000000) (disch:=omega) only [rg,gD,simprocAttr,vI_len,show ¬ (ms.length:Int)=0 by omega]
          (refine fin_x rfl ?_ ?_<;>simp [pack,lo,loL,V.closed,closedL,mv_closed,stpB,hn,h0])
    | false =>
      simp (maxSteps:=1000000) (disch:=omega) only [rg,gD,simprocAttr,c17,stpV,tasksV,vI_len]
      refine ⟨_,kc, ?_⟩
      cases hn:lineCmd c with
      | false =>
        simp (maxSteps:=1000000) (disch:=omega) only [rg,gD,simprocAttr]
        (refine fin_x rfl ?_ ?_<;>simp [pack,lo,loL,V.closed,closedL,mv_closed,stpB,hn])
      | true =>
        by_cases h0:ms.length=0
        · simp (maxSteps:=1000000) (disch:=omega) only [rg,gD,simprocAttr,vI_len,show (ms.length:Int)=0 by omega]
          (refine fin_x rfl ?_ ?_<;>simp [pack,lo,loL,V.closed,closedL,mv_closed,stpB,hn,h0])
        · simp (maxSteps:=1000000) (disch:=omega) only [rg,gD,simprocAttr,vI_len,show ¬ (ms.length:Int)=0 by omega]
          (refine fin_x rfl ?_ ?_<;>simp [pack,lo,loL,V.closed,closedL,mv_closed,stpB,hn,h0])
def okStp (s:Stp):Prop:=okCmd s.cmd∧s.masks.length≤4611686018427387904
theorem p_clo (H:Hp) (s:Stp) (h:okStp s):ACall Tryd.prog 16 [stpV s] H [] (.bool (!stpB s)) [] 1:=by
  refine ena16 (by simp) (by simp [lowL,V.low_closed _ (stpV_closed s)]) (by simp) (by simp) ?_
  have k:=p_step s h.1 h.2
  unfold stpV tasksV at k ⊢
  simp (maxSteps:=1000000) (disch:=omega) only [rg,gD,simprocAttr,c16]
  refine ⟨_,k, ?_⟩
  simp (maxSteps:=1000000) (disch:=omega) only [rg,gD,simprocAttr]
  refine fin_A (l:=[.bool (!stpB s)]) rfl (.inl rfl) (by simp) (fun j => ?_)
  by_cases hj:j=H.n
  · subst hj; left; simp [appd,only]
  · right; simp [appd,upd,hj]
def unT:V→Task
  | .agg [.fsl _ _ l,.int _ a,.int _ b,.int _ c] => ⟨l.map unI,a,b,c⟩
  | _ => ⟨[],0,0,0⟩
theorem unT_map:∀ l:List Task,(mv taskV l).map unT=l
  | [] => rfl
  | t::l => by
    show unT (taskV t)::(mv taskV l).map unT=_
    rw [unT_map l]; simp only [taskV,unT,unI_map]
def unP:V→Stp
  | .agg [.int _ a,.str b,.str c,.int _ d,.int _ e,.str f,.str g,.fsl _ _ l,.bool h,.bool i,.fsl _ _ m] => ⟨⟨a,b,c,d,e,f,⟨g,l.map unT⟩⟩,h,i,m.map unI⟩
  | _ => ⟨zeroC,false,false,[]⟩
theorem unP_stp (s:Stp):unP (stpV s)=s:=by
  simp only [stpV,unP,tasksV,unT_map,unI_map]
theorem con_steps {st:St} {rows:List Stp} {fs cs:List V} {g:Nat} {q:Stp→Bool} {H:Hp} {fp:List Nat} {kk:Nat} (hn:rows.length≤1000000) (hl:lowL H.n fs=true) (hl':lowL H.n cs=true) (hfp:FpOk H fp)
    (hg:∀ x∈rows,∀ H':Hp,H.n≤H'.n→(∀ id∈fp,H'.m id=H.m id)→ACall Tryd.prog g (fs++[stpV x]++cs) H' fp (.bool (q x)) [] kk) :
    ACall Tryd.prog 15 [.fsl st 11 (mv stpV rows),.fn g fs cs] H fp (.bool (rows.any q)) [] (rows.length*kk):=by
  have:=con_gen (f:=15) (f2:=25) (sz:=11) (k:=some 11) (st:=st) (rows:=mv stpV rows) (fs:=fs) (cs:=cs) (g:=g) (q:=fun v => q (unP v)) (H:=H) (fp:=fp) (kk:=kk)
    ena15 ena25 (by decide) (by decide) (mv_closed stpV_closed) (fun e he => by obtain ⟨a,_,rfl⟩:=mv_mem he; rfl) (by rw [mv_len]; omega) hl hl' hfp
    (fun e he H' h1 h2 => by obtain ⟨a,ha,rfl⟩:=mv_mem he; simp only [unP_stp]; exact hg a ha H' h1 h2)
  rw [mv_len] at this
  have e:(mv stpV rows).any (fun v => q (unP v))=rows.any q:=by
    rw [mv,List.any_map]; congr 1; funext t; exact congrArg q (unP_stp t)
  rwa [e] at this
theorem p_right (p:Pln) (h:∀ s∈p.steps,okStp s):PCall Tryd.prog 7 [plnV p] (.bool (planB p)):=by
  refine en7 (by simp) (by simp [closedL,plnV_closed]) ?_
  by_cases a:(24:Int)≤p.size
  case neg =>
    have e:planB p=false:=by rw [planB,decide_eq_false (by omega)]; rfl
    simp (maxSteps:=1000000) (disch:=omega) only [rg,gD,simprocAttr,c7,plnV,mv_len,a]
    (refine fin_x rfl ?_ ?_<;>simp [pack,lo,loL,V.closed,closedL,mv_closed,e])
  by_cases b:p.size≤(200:Int)
  case neg =>
    have e:planB p=false:=by rw [planB,decide_eq_false (by omega)]; rfl
    simp (maxSteps:=1000000) (disch:=omega) only [rg,gD,simprocAttr,c7,plnV,mv_len,a,b]
    (refine fin_x rfl ?_ ?_<;>simp [pack,lo,loL,V.closed,closedL,mv_closed,e])
  by_cases d:p.steps.length≤200
  case neg =>
    have e:planB p=false:=by rw [planB,decide_eq_true (by omega),decide_eq_false d]; rfl
    simp (maxSteps:=1000000) (disch:=omega) only [rg,gD,simprocAttr,c7,plnV,mv_len,a,b,show ¬ (p.steps.length:Int)≤200 by omega]
    (refine fin_x rfl ?_ ?_<;>simp [pack,lo,loL,V.closed,closedL,mv_closed,e])
  have e:planB p=p.steps.all stpB:=by rw [planB,decide_eq_true (by omega),decide_eq_true d]; rfl
  simp (maxSteps:=1000000) (disch:=omega) only [rg,gD,simprocAttr,c7,plnV,mv_len,a,b,show (p.steps.length:Int)≤200 by omega]
  refine ⟨_,_,_,_,con_steps (rows:=p.steps) (q:=fun s => !stpB s) (fp:=[]) (kk:=1) (by omega) rfl rfl (FpOk.nil _) (fun x hx H' h1 h2 => p_clo H' x (h x hx)), ?_⟩
  rw [any_not]
  simp (maxSteps:=1000000) (disch:=omega) only [rg,gD,simprocAttr]
  (refine fin_x rfl ?_ ?_<;>simp [pack,lo,loL,V.closed,closedL,mv_closed,e])
theorem p_alive:PCall Tryd.prog 6 [] (.bool true):=by
  refine en6 (by simp) (by simp [closedL]) ?_
  have k:=p_right ⟨24,[]⟩ (by simp)
  have e:planB ⟨24,[]⟩=true:=by decide
  rw [e] at k
  simp only [plnV,mv,List.map_nil] at k
  simp (maxSteps:=1000000) (disch:=omega) only [rg,gD,simprocAttr,c6]
  refine ⟨_,PCall.of_eq k rfl, ?_⟩
  simp (maxSteps:=1000000) (disch:=omega) only [rg,gD,simprocAttr]
  (refine fin_x rfl ?_ ?_<;>simp [pack,lo,loL,V.closed,closedL,mv_closed])
def V.flat:V→Bool
  | .bool _ | .int _ _ | .str _ => true
  | _ => false
theorem R.flat {g g':G} {v:V} {x:Value} (h:v.flat=true) (r:R g v x):R g' v x:=by
  cases v<;>simp [V.flat] at h<;>simpa only [R] using r
theorem RS.still {g:G} {m:Hm} {w w':World} (h:RS g m w) (hz:w.heap.size≤w'.heap.size) (hb:∀ b,b < w.heap.size→w'.heap[b]?=w.heap[b]?):RS g m w' :=
  ⟨fun b cs k => by
    obtain ⟨e,fr,h1⟩:=h.fro b cs k
    exact ⟨e,fr,(hb b (Array.getElem?_eq_some_iff.1 h1).1).trans h1⟩,
   fun id ob k => (h.live id ob k).keep (.refl g) fun b s n hb' => ⟨hb b ((h.live id ob k).lt hb'),(h.live id ob k).unF hb'⟩,h.inj,h.tab⟩
def snapL (m:Hm):List V→Option (List V)
  | [] => some []
  | v::vs => match snapF m v with | some u => (match snapL m vs with | some us => some (u::us) | none => none) | none => none
theorem snapL_c {m:Hm} {v u:V} {vs us:List V} (h1:snapF m v=some u) (h2:snapL m vs=some us):snapL m (v::vs)=some (u::us):=by simp [snapL,h1,h2]
theorem snapL_n {m:Hm}:snapL m []=some []:=rfl
theorem snapF_of {m:Hm} {v u:V} (h:snap 4 m v=some u):snapF m v=some u:=by simp [snapF,h]
theorem PCall.frzA {P:Program} {f:Nat} {us vs:List V} {r:V} (h:PCall P f vs r) {H:Hp} {fp:List Nat} (hv:snapL (only fp H.m) us=some vs):ACall P f us H fp r (fp.map fun i => (i,none)) 0:=by
  refine ⟨h.1,fun p hp => .inl (by obtain ⟨i,hi,rfl⟩:=List.mem_map.1 hp; exact hi),fun m g w xs hag _ hs hx => ?_⟩
  have e0:only fp m=only fp H.m:=by
    funext id
    simp only [only]
    split
    · rename_i hid; exact hag id hid
    · rfl
  rw [← e0] at hv
  obtain ⟨F',p1,p2,p3,p4⟩:=freezeSome hs fp
  have j1:∀ {us vs:List V} {xs:List Value},snapL (only fp m) us=some vs→RC g us xs→RC ⟨g.ι,F'⟩ vs xs:=by
    intro us
    induction us with
    | nil => intro vs xs hv hx; simp [snapL] at hv; subst hv; simpa only [RC] using hx
    | cons u us ih =>
      intro vs xs hv hx
      simp only [snapL] at hv
      split at hv
      · rename_i u' hu
        split at hv
        · rename_i us' hus
          simp at hv; subst hv
          simp only [RC] at hx ⊢
          obtain ⟨y,ys,rfl,r1,r2⟩:=hx
          exact ⟨y,ys,rfl,snapF_sound (g:=g) (g':=⟨g.ι,F'⟩) (hs.only fp) p1 p4 hu r1,ih hus r2⟩
        · cases hv
      · cases hv
  have hle:g.le ⟨g.ι,F'⟩:=⟨fun _ _ k => k,p1⟩
  have hsub:∀ id o,without fp m id=some o→m id=some o:=fun id o k => by simp only [without] at k; split at k; cases k; exact k
  have hxt:Ext g m w ⟨g.ι,F'⟩ (without fp m) w :=
    ⟨Nat.le_refl _,fun _ _ _ => rfl,hle,fun b ⟨id,o,s,n,k1,k2⟩ => .inr ⟨id,o,s,n,hsub _ _ k1,k2⟩,fun b cs k => (p2 b cs k).imp (fun h => h) .inr,rfl,rfl,rfl⟩
  have hm:appd (fp.map fun i => (i,none)) m=without fp m:=by
    have:∀ (fp:List Nat) (m:Hm),appd (fp.map fun i => (i,none)) m=without fp m:=by
      intro fp
      induction fp with
      | nil => intro m; funext i; simp [appd,without]
      | cons a fp ih =>
        intro m
        simp only [List.map_cons,appd]
        rw [ih]
        funext i
        simp only [without,upd,List.mem_cons]
        by_cases h1:i∈fp<;>by_cases h2:i=a<;>simp [h1,h2]
    exact this fp m
  refine (h.2 (without fp m) ⟨g.ι,F'⟩ w xs p3 (j1 hv hx)).mono ?_
  rintro e w' ⟨x,F2,k1,k2,k3,k4⟩
  rw [hm]
  exact ⟨x,⟨g.ι,F2⟩,k1,k2,k3,fun _ _ => rfl,hxt.trans k4⟩
theorem PCall.own1 {P:Program} {f id sz len:Nat} {l:List V} {r:V} {H:Hp} (h:PCall P f [.fsl .loose sz l] r) (hm:H.m id=some (.arr sz l)) (hc:closedL l=true) (hl:len=l.length):ACall P f [.sl id 0 len] H [id] r [(id,none)] 0 :=
  h.frzA (fp:=[id]) (snapL_c (snapF_of (snap_sl (by simp [only,hm]) hc hl)) snapL_n)
def Bfo (H:Hp) (sz:Nat) (v:V) (l:List V):Prop :=
  (∃ st,(st≠.loose∧st≠.nn)∧v=.fsl st sz l)∨∃ id,id < H.n∧v=.sl id 0 l.length∧H.m id=some (.arr sz l)
theorem app_bfo {H:Hp} {sz bt:Nat} {v y:V} {l ys:List V} {K:KI} (h:Bfo H sz v l) (hy:Ev.rd H.m y=some (sz,ys)) (hne:ys≠[]) (hl:(l.length+ys.length)*bt≤140737488355328)
    (k:∀ v' fp ds,Bfo ⟨H.n+1,appd ds H.m⟩ sz v' (l++ys)→(∀ id,id < H.n→(∀ o n,v≠.sl id o n)→appd ds H.m id=H.m id)→K v' fp ds 1):fin (appO H sz bt v y) K:=by
  have e:(l++ys).length=l.length+ys.length:=List.length_append
  unfold appO
  rw [rdA_of hy]
  rcases h with ⟨st,h0,rfl⟩ | ⟨id,h1,rfl,h2⟩
  · cases ys with
    | nil => exact absurd rfl hne
    | cons a ys =>
      refine ⟨⟨rfl,rfl,h0,by simpa using hl⟩,k _ _ _ (.inr ⟨H.n,by simp,by simp,by simp [appd,upd]⟩) fun id hid _ => ?_⟩
      have:id≠H.n:=by omega
      simp [appd,upd,this]
  · simp only [h2]
    refine ⟨⟨trivial,trivial,trivial,Nat.le_refl _,hl⟩,k _ _ _ (.inr ⟨H.n,by simp,by simp,by simp [appd,upd]⟩) fun i hid hv => ?_⟩
    have h3:i≠H.n:=by omega
    have h4:i≠id:=fun e => hv 0 l.length (by rw [e])
    simp [appd,upd,h3,h4]
theorem Bfo.frz {H:Hp} {sz:Nat} {v:V} {l:List V} (h:Bfo H sz v l) (hc:closedL l=true):∃ fz st,frzV fz H.m v=.fsl st sz l:=by
  rcases h with ⟨st,h0,rfl⟩ | ⟨id,h1,rfl,h2⟩
  · exact ⟨[],st,frz_f hc⟩
  · exact ⟨[id],.loose,by rw [frz_sl h2 (by simp) (by simp) hc]; simp⟩
theorem Bfo.keep {H:Hp} {n':Nat} {m':Hm} {sz:Nat} {v:V} {l:List V} (h:Bfo H sz v l) (hn:H.n≤n') (hm:∀ id,id < H.n→m' id=H.m id):Bfo ⟨n',m'⟩ sz v l:=by
  rcases h with h | ⟨id,h1,h2,h3⟩
  · exact .inl h
  · exact .inr ⟨id,Nat.lt_of_lt_of_le h1 hn,h2,(hm id h1).trans h3⟩
theorem vS_len' (l:List Str):(vS l).length=l.length:=mv_len
theorem numW_len (l:List Int):(numW l).length=l.length:=by simp [numW]
theorem numW_in {l:List Int} (h:∀ x∈l,i64 x):∀ w∈numW l,w.length≤20:=by
  intro w hw
  obtain ⟨x,hx,rfl⟩:=List.mem_map.1 hw
  exact itoa_len (h x hx)
theorem p_numbers (st:St) (l:List Int) (hl:∀ x∈l,i64 x) (hn:l.length≤1000000):PCall Tryd.prog 22 [.fsl st 1 (vI l)] (.fsl .loose 1 (vS (numW l))):=by
  refine en22 (by simp) (by simp [closedL,V.closed,vI_closed]) ?_
  simp (maxSteps:=1000000) (disch:=omega) only [rg,gD,simprocAttr,c22,vI_len]
  refine x_it l.length (fun i σ H => ∃ v,Bfo H 1 v (vS (numW (l.take i)))∧σ=[(3,v),(6,.fsl st 1 (vI l)),(7,.int .i64 l.length),(8,.int .i64 i)]) ⟨_,.inl ⟨.nil,by decide,rfl⟩,rfl⟩ ?_
  rintro T i σ ⟨n,m⟩ hi ⟨v,hb,rfl⟩ hN hX hR
  simp (maxSteps:=1000000) (disch:=omega) only [rg,gD,simprocAttr]
  refine ⟨fun h => ?_,fun h => ?_⟩
  · have i1:i < l.length:=by omega
    have hx:=hl l[i] (List.getElem_mem i1)
    have e1:vS (numW (l.take i))++[.str (Lib.itoa l[i])]=vS (numW (l.take (i+1))):=by
      rw [List.take_succ_eq_append_getElem i1]
      show _=mv V.str ((l.take i++[l[i]]).map Lib.itoa)
      rw [List.map_append,mv,List.map_append]; rfl
    simp (maxSteps:=1000000) (disch:=omega) only [rg,gD,simprocAttr,vI_get]
    refine ⟨_,p_itoa _ hx, ?_⟩
    simp (maxSteps:=1000000) (disch:=omega) only [rg,gD,simprocAttr]
    refine app_bfo hb (ys:=[.str (Lib.itoa l[i])]) rfl (by simp) (by rw [vS_len',numW_len,List.length_take]; simp; omega) fun v' fp ds hb' _ => ?_
    rw [e1] at hb'
    simp (maxSteps:=1000000) (disch:=omega) only [rg,gD,simprocAttr]
    exact hN _ _ i1 ⟨v',hb',rfl⟩
  · obtain rfl:i=l.length:=by omega
    rw [List.take_length] at hb
    refine hX _ _ _ ?_
    simp (maxSteps:=1000000) (disch:=omega) only [rg,gD,simprocAttr]
    obtain ⟨fz,st',hz⟩:=hb.frz vS_closed
    refine x_frz fz ?_
    simp (maxSteps:=1000000) (disch:=omega) only [rg,gD,simprocAttr,hz]
    (refine fin_x rfl ?_ ?_<;>simp [pack,lo,loL,V.closed,closedL,mv_closed,vS_lo,vS_closed])
theorem p_line (st:St) (ws:List Str) (hN:ws.length≤1000000) (hl:(Lib.join ws [32]).length≤1000000000):PCall Tryd.prog 10 [.fsl st 1 (vS ws)] (.str (lineW ws)):=by
  refine en10 (by simp) (by simp [closedL,V.closed,vS_closed]) ?_
  simp (maxSteps:=1000000) (disch:=omega) only [rg,gD,simprocAttr,c10]
  refine ⟨_,code_join st ws [32] (by omega) (by omega), ?_⟩
  simp (maxSteps:=1000000) (disch:=omega) only [rg,gD,simprocAttr]
  refine ⟨by first | omega | (simp; omega), ?_⟩
  (refine fin_x rfl ?_ ?_<;>simp [pack,lo,loL,V.closed,closedL,mv_closed,lineW])
section
theorem app_lit {H:Hp} {sz bt:Nat} {l ys:List V} {st':St} {K:KI} (hl:(l.length+ys.length)*bt≤140737488355328) (k0:ys=[]→K (.fsl .full sz l) [] [] 0)
    (k1:ys≠[]→K (.sl H.n 0 (l++ys).length) [] [(H.n,some (.arr sz (l++ys)))] 1):fin (appO H sz bt (.fsl .full sz l) (.fsl st' sz ys)) K:=by
  cases ys with
  | nil => exact ⟨⟨rfl,rfl⟩,k0 rfl⟩
  | cons a ys =>
    have:=k1 (by simp)
    rw [List.length_append] at this
    exact ⟨⟨rfl,rfl,by decide,hl⟩,this⟩
theorem lineOk {ws:List Str} (h:∀ w∈ws,w.length≤1000) (hn:ws.length≤1000):(Lib.join ws [32]).length≤1000000000:=by
  have h1:=join_len (sep:=[32]) h
  have h2:ws.length*([(32:UInt8)].length+1000)≤1000*([(32:UInt8)].length+1000):=Nat.mul_le_mul_right _ hn
  simp only [List.length_singleton] at h1 h2
  omega
def okTk (t:Task):Prop:=(∀ x∈t.needs,i64 x)∧i64 t.tries∧i64 t.wait∧i64 t.lease
theorem tk_in {t:Task} (h:okTk t):∀ x∈[t.tries,t.wait,t.lease]++t.needs,i64 x:=by
  intro x hx
  simp only [List.mem_append,List.mem_cons,List.not_mem_nil,or_false] at hx
  rcases hx with (rfl | rfl | rfl) | hx
  · exact h.2.1
  · exact h.2.2.1
  · exact h.2.2.2
  · exact h.1 x hx
theorem taskW_len {t:Task} (h:okTk t) (hn:t.needs.length≤10):(taskW t).length≤1000:=by
  have h1:=join_len (sep:=[44]) (numW_in (tk_in h))
  rw [numW_len] at h1
  have h2:([t.tries,t.wait,t.lease]++t.needs).length≤13:=by simp; omega
  have h3:=Nat.mul_le_mul_right ([(44:UInt8)].length+20) h2
  simp only [List.length_singleton] at h1 h3
  unfold taskW; omega
def okLn (s:Stp):Prop:=stpB s=true∧i64 s.cmd.token∧i64 s.cmd.time∧(∀ t∈s.cmd.dag.tasks,okTk t)∧∀ x∈s.masks,i64 x
set_option maxHeartbeats 1000000 in
theorem p_lineOf (s:Stp) (h:okLn s):PCall Tryd.prog 12 [stpV s] (.str (lineS s)):=by
  refine en12 (by simp) (by simp [closedL,stpV_closed]) ?_
  obtain ⟨hb,hi1,hi2,hts,hms⟩:=h
  obtain ⟨c,chk,cr,ms⟩:=s
  simp only at hi1 hi2 hts hms
  have a20:=itoa_len hi1
  have b20:=itoa_len hi2
  cases cr with
  | true =>
    have h64:ms.length≤64:=by simp [stpB] at hb; exact hb.1.2
    have e:lineS ⟨c,chk,true,ms⟩=lineW (wCrash::numW ms):=by simp [lineS,wordsS]
    have hlen:(Lib.join (wCrash::numW ms) [32]).length≤1000000000:=lineOk (by
      intro w hw
      rcases List.mem_cons.1 hw with rfl | hw
      · decide
      · have:=numW_in hms w hw; omega) (by simp [numW_len]; omega)
    simp (maxSteps:=1000000) (disch:=omega) only [rg,gD,simprocAttr,c12,stpV,tasksV]
    refine ⟨_,_,_,_,(p_numbers .loose ms hms (by omega)).toA _ [], ?_⟩
    simp (maxSteps:=1000000) (disch:=omega) only [rg,gD,simprocAttr]
    refine app_lit (by simp [vS_len',numW_len]; omega) (fun h0 => ?_) (fun h0 => ?_)
    · have hm0:numW ms=[]:=by cases hq:numW ms with | nil => rfl | cons a l => rw [hq] at h0; simp [vS,mv] at h0
      rw [hm0] at e hlen
      simp (maxSteps:=1000000) (disch:=omega) only [rg,gD,simprocAttr]
      refine ⟨_,_,_,_,(p_line .full [wCrash] (by simp) hlen).toA _ [], ?_⟩
      simp (maxSteps:=1000000) (disch:=omega) only [rg,gD,simprocAttr]
      (refine fin_x rfl ?_ ?_<;>simp [pack,lo,loL,V.closed,closedL,mv_closed,e])
    · simp (maxSteps:=1000000) (disch:=omega) only [rg,gD,simprocAttr]
      refine ⟨_,_,_,_,(p_line .loose (wCrash::numW ms) (by simp [numW_len]; omega) hlen).own1 (by simp only [upd_eq]; rfl) vS_closed (by simp [vS_len',numW_len]), ?_⟩
      simp (maxSteps:=1000000) (disch:=omega) only [rg,gD,simprocAttr]
      (refine fin_x rfl ?_ ?_<;>simp [pack,lo,loL,V.closed,closedL,mv_closed,e])
  | false =>
  cases chk with
  | true =>
    have e:lineS ⟨c,true,false,ms⟩=lineW [wCheck]:=by simp [lineS,wordsS]
    simp (maxSteps:=1000000) (disch:=omega) only [rg,gD,simprocAttr,c12,stpV,tasksV]
    refine ⟨_,_,_,_,(p_line .full [wCheck] (by simp) (lineOk (by simp [wCheck]) (by simp))).toA _ [], ?_⟩
    simp (maxSteps:=1000000) (disch:=omega) only [rg,gD,simprocAttr]
    (refine fin_x rfl ?_ ?_<;>simp [pack,lo,loL,V.closed,closedL,mv_closed,e])
  | false =>
  have hcm:lineCmd c=true:=by simp [stpB] at hb; exact hb.1
  have hP:cmdP c:=by simp [lineCmd] at hcm; exact hcm.1.1
  have hfit:fitP c:=hP.2.2.2.1
  unfold fitP at hfit
  simp (maxSteps:=1000000) (disch:=omega) only [rg,gD,simprocAttr,c12,stpV,tasksV]
  by_cases k1:c.kind=1
  · have hd:=right_fit (hP.2.2.2.2 k1)
    have e:lineS ⟨c,false,false,ms⟩=lineW ([wGraph,c.dag.name]++c.dag.tasks.map taskW):=by simp [lineS,wordsS,wordsL,k1]
    simp (maxSteps:=1000000) (disch:=omega) only [rg,gD,simprocAttr,k1,mv_len]
    refine x_it c.dag.tasks.length (fun i σ H => ∃ v,2≤H.n∧Bfo H 1 v (vS ([wGraph,c.dag.name]++(c.dag.tasks.take i).map taskW))∧σ=[(4,v),(33,.fsl .loose 4 (mv taskV c.dag.tasks)),(34,.int .i64 c.dag.tasks.length),(35,.int .i64 i)]) ⟨_,by simp,.inl ⟨.full,by decide,rfl⟩,rfl⟩ ?_
    rintro T i σ ⟨n,m⟩ hi ⟨v,hn2,hb',rfl⟩ hN hX hR
    simp only at hn2
    simp (maxSteps:=1000000) (disch:=omega) only [rg,gD,simprocAttr]
    refine ⟨fun hlt => ?_,fun hlt => ?_⟩
    · have i1:i < c.dag.tasks.length:=by omega
      have ht:=hts c.dag.tasks[i] (List.getElem_mem i1)
      have hnl:=hd.2.2.2.2 c.dag.tasks[i] (List.getElem_mem i1)
      have htw:=taskW_len ht hnl
      have e1:vS ([wGraph,c.dag.name]++(c.dag.tasks.take i).map taskW)++[.str (taskW c.dag.tasks[i])]=vS ([wGraph,c.dag.name]++(c.dag.tasks.take (i+1)).map taskW):=by
        rw [List.take_succ_eq_append_getElem i1,List.map_append,← List.append_assoc]; exact mv_app1
      simp (maxSteps:=1000000) (disch:=omega) only [rg,gD,simprocAttr,mv_get,taskV]
      generalize htk:c.dag.tasks[i]=t at ht hnl htw e1
      have hnum:∀ st,PCall Tryd.prog 22 [.fsl st 1 (vI ([t.tries,t.wait,t.lease]++t.needs))] (.fsl .loose 1 (vS (numW ([t.tries,t.wait,t.lease]++t.needs)))):=fun st => p_numbers st _ (tk_in ht) (by simp; omega)
      have hj:=code_join .loose (numW ([t.tries,t.wait,t.lease]++t.needs)) [44] (by rw [numW_len]; simp; omega) (by unfold taskW at htw; omega)
      have hbn:Bfo ⟨n+1,upd m n (some (.arr 4 [.agg [.fsl .loose 1 (vI t.needs),.int .i64 t.tries,.int .i64 t.wait,.int .i64 t.lease]]))⟩ 1 v (vS ([wGraph,c.dag.name]++(c.dag.tasks.take i).map taskW)):=hb'.keep (by simp) (fun id hid => upd_ne (by simp only at hid; omega))
      have hsz:((vS ([wGraph,c.dag.name]++(c.dag.tasks.take i).map taskW)).length+[V.str (taskW t)].length)*16≤140737488355328:=by
        rw [vS_len']; simp [List.length_take]; omega
      refine app_lit (by simp [vI_len]; omega) (fun h0 => ?_) (fun h0 => ?_)
      · have hz:t.needs=[]:=by cases hq:t.needs with | nil => rfl | cons a l => rw [hq] at h0; simp [vI,mv] at h0
        rw [hz] at hnum hj
        simp (maxSteps:=1000000) (disch:=omega) only [rg,gD,simprocAttr]
        refine ⟨_,_,_,_,(hnum .full).toA _ [], ?_⟩
        simp (maxSteps:=1000000) (disch:=omega) only [rg,gD,simprocAttr]
        refine ⟨_,hj, ?_⟩
        simp (maxSteps:=1000000) (disch:=omega) only [rg,gD,simprocAttr]
        have ht0:taskW t=Lib.join (numW [t.tries,t.wait,t.lease]) [44]:=by simp [taskW,hz]
        refine app_bfo (hb'.keep (by simp only []; omega) (fun id hid => by simp only at hid; simp (disch:=omega) only [appd,upd_ne])) (ys:=[.str (taskW t)]) (by rw [ht0]; rfl) (by simp) hsz fun v' fp ds hb2 _ => ?_
        rw [e1] at hb2
        simp (maxSteps:=1000000) (disch:=omega) only [rg,gD,simprocAttr]
        exact hN _ _ i1 ⟨v',by simp only []; omega,hb2,rfl⟩
      · simp (maxSteps:=1000000) (disch:=omega) only [rg,gD,simprocAttr]
        refine ⟨_,_,_,_,(hnum .loose).own1 (by simp only [upd_eq]; rfl) vI_closed (by simp [vI_len,vI,mv]), ?_⟩
        simp (maxSteps:=1000000) (disch:=omega) only [rg,gD,simprocAttr]
        refine ⟨_,hj, ?_⟩
        simp (maxSteps:=1000000) (disch:=omega) only [rg,gD,simprocAttr]
        refine app_bfo (hb'.keep (by simp only []; omega) (fun id hid => by simp only at hid; simp (disch:=omega) only [appd,upd_ne])) (ys:=[.str (taskW t)]) rfl (by simp) hsz fun v' fp ds hb2 _ => ?_
        rw [e1] at hb2
        simp (maxSteps:=1000000) (disch:=omega) only [rg,gD,simprocAttr]
        exact hN _ _ i1 ⟨v',by simp only []; omega,hb2,rfl⟩
    · obtain rfl:i=c.dag.tasks.length:=by omega
      rw [List.take_length] at hb'
      refine hX _ _ _ ?_
      simp (maxSteps:=1000000) (disch:=omega) only [rg,gD,simprocAttr]
      obtain ⟨fz,st',hz⟩:=hb'.frz vS_closed
      refine x_frz fz ?_
      simp (maxSteps:=1000000) (disch:=omega) only [rg,gD,simprocAttr,hz]
      refine ⟨_,_,_,_,(p_line st' ([wGraph,c.dag.name]++c.dag.tasks.map taskW) (by simp; omega) (lineOk (by
        intro w hw
        simp only [List.mem_append,List.mem_cons,List.not_mem_nil,or_false,List.mem_map] at hw
        rcases hw with (rfl | rfl) | ⟨t,ht,rfl⟩
        · decide
        · omega
        · exact taskW_len (hts t ht) (hd.2.2.2.2 t ht)) (by simp; omega))).toA _ [], ?_⟩
      simp (maxSteps:=1000000) (disch:=omega) only [rg,gD,simprocAttr]
      (refine fin_x rfl ?_ ?_<;>simp [pack,lo,loL,V.closed,closedL,mv_closed,e])
  by_cases k2:c.kind=2
  · have e:lineS ⟨c,false,false,ms⟩=lineW [wStart,c.key,c.name]:=by simp [lineS,wordsS,wordsL,k1,k2]
    simp (maxSteps:=1000000) (disch:=omega) only [rg,gD,simprocAttr,k1,k2]
    refine ⟨_,_,_,_,(p_line .full [wStart,c.key,c.name] (by simp) (lineOk (by simp [wStart,wPoll,wBeat,wFail,wCancel,wTick,wState]; try omega) (by simp))).toA _ [], ?_⟩
    simp (maxSteps:=1000000) (disch:=omega) only [rg,gD,simprocAttr]
    (refine fin_x rfl ?_ ?_<;>simp [pack,lo,loL,V.closed,closedL,mv_closed,e])
  by_cases k3:c.kind=3
  · have e:lineS ⟨c,false,false,ms⟩=lineW [wPoll]:=by simp [lineS,wordsS,wordsL,k1,k2,k3]
    simp (maxSteps:=1000000) (disch:=omega) only [rg,gD,simprocAttr,k1,k2,k3]
    refine ⟨_,_,_,_,(p_line .full [wPoll] (by simp) (lineOk (by simp [wStart,wPoll,wBeat,wFail,wCancel,wTick,wState]; try omega) (by simp))).toA _ [], ?_⟩
    simp (maxSteps:=1000000) (disch:=omega) only [rg,gD,simprocAttr]
    (refine fin_x rfl ?_ ?_<;>simp [pack,lo,loL,V.closed,closedL,mv_closed,e])
  by_cases k4:c.kind=4
  · have e:lineS ⟨c,false,false,ms⟩=lineW [wBeat,Lib.itoa c.token]:=by simp [lineS,wordsS,wordsL,k1,k2,k3,k4]
    simp (maxSteps:=1000000) (disch:=omega) only [rg,gD,simprocAttr,k1,k2,k3,k4]
    refine ⟨_,p_itoa _ hi1, ?_⟩
    simp (maxSteps:=1000000) (disch:=omega) only [rg,gD,simprocAttr]
    refine ⟨_,_,_,_,(p_line .full [wBeat,Lib.itoa c.token] (by simp) (lineOk (by simp [wStart,wPoll,wBeat,wFail,wCancel,wTick,wState]; try omega) (by simp))).toA _ [], ?_⟩
    simp (maxSteps:=1000000) (disch:=omega) only [rg,gD,simprocAttr]
    (refine fin_x rfl ?_ ?_<;>simp [pack,lo,loL,V.closed,closedL,mv_closed,e])
  by_cases k5:c.kind=5
  · by_cases x:c.text=[]
    · have e:lineS ⟨c,false,false,ms⟩=lineW [wDone,Lib.itoa c.token]:=by simp [lineS,wordsS,wordsL,k1,k2,k3,k4,k5,x]
      simp (maxSteps:=1000000) (disch:=omega) only [rg,gD,simprocAttr,k1,k2,k3,k4,k5,x]
      refine ⟨_,p_itoa _ hi1, ?_⟩
      simp (maxSteps:=1000000) (disch:=omega) only [rg,gD,simprocAttr]
      refine ⟨_,_,_,_,(p_line .full [wDone,Lib.itoa c.token] (by simp) (lineOk (by simp [wDone]; omega) (by simp))).toA _ [], ?_⟩
      simp (maxSteps:=1000000) (disch:=omega) only [rg,gD,simprocAttr]
      (refine fin_x rfl ?_ ?_<;>simp [pack,lo,loL,V.closed,closedL,mv_closed,e])
    · have e:lineS ⟨c,false,false,ms⟩=lineW [wDone,Lib.itoa c.token,c.text]:=by simp [lineS,wordsS,wordsL,k1,k2,k3,k4,k5,x]
      simp (maxSteps:=1000000) (disch:=omega) only [rg,gD,simprocAttr,k1,k2,k3,k4,k5,x]
      refine ⟨_,p_itoa _ hi1, ?_⟩
      simp (maxSteps:=1000000) (disch:=omega) only [rg,gD,simprocAttr]
      refine ⟨_,_,_,_,(p_line .full [wDone,Lib.itoa c.token,c.text] (by simp) (lineOk (by simp [wDone]; omega) (by simp))).toA _ [], ?_⟩
      simp (maxSteps:=1000000) (disch:=omega) only [rg,gD,simprocAttr]
      (refine fin_x rfl ?_ ?_<;>simp [pack,lo,loL,V.closed,closedL,mv_closed,e])
  by_cases k6:c.kind=6
  · have e:lineS ⟨c,false,false,ms⟩=lineW [wFail,Lib.itoa c.token]:=by simp [lineS,wordsS,wordsL,k1,k2,k3,k4,k5,k6]
    simp (maxSteps:=1000000) (disch:=omega) only [rg,gD,simprocAttr,k1,k2,k3,k4,k5,k6]
    refine ⟨_,p_itoa _ hi1, ?_⟩
    simp (maxSteps:=1000000) (disch:=omega) only [rg,gD,simprocAttr]
    refine ⟨_,_,_,_,(p_line .full [wFail,Lib.itoa c.token] (by simp) (lineOk (by simp [wStart,wPoll,wBeat,wFail,wCancel,wTick,wState]; try omega) (by simp))).toA _ [], ?_⟩
    simp (maxSteps:=1000000) (disch:=omega) only [rg,gD,simprocAttr]
    (refine fin_x rfl ?_ ?_<;>simp [pack,lo,loL,V.closed,closedL,mv_closed,e])
  by_cases k7:c.kind=7
  · have e:lineS ⟨c,false,false,ms⟩=lineW [wCancel,c.key]:=by simp [lineS,wordsS,wordsL,k1,k2,k3,k4,k5,k6,k7]
    simp (maxSteps:=1000000) (disch:=omega) only [rg,gD,simprocAttr,k1,k2,k3,k4,k5,k6,k7]
    refine ⟨_,_,_,_,(p_line .full [wCancel,c.key] (by simp) (lineOk (by simp [wStart,wPoll,wBeat,wFail,wCancel,wTick,wState]; try omega) (by simp))).toA _ [], ?_⟩
    simp (maxSteps:=1000000) (disch:=omega) only [rg,gD,simprocAttr]
    (refine fin_x rfl ?_ ?_<;>simp [pack,lo,loL,V.closed,closedL,mv_closed,e])
  by_cases k8:c.kind=8
  · have e:lineS ⟨c,false,false,ms⟩=lineW [wTick,Lib.itoa c.time]:=by simp [lineS,wordsS,wordsL,k1,k2,k3,k4,k5,k6,k7,k8]
    simp (maxSteps:=1000000) (disch:=omega) only [rg,gD,simprocAttr,k1,k2,k3,k4,k5,k6,k7,k8]
    refine ⟨_,p_itoa _ hi2, ?_⟩
    simp (maxSteps:=1000000) (disch:=omega) only [rg,gD,simprocAttr]
    refine ⟨_,_,_,_,(p_line .full [wTick,Lib.itoa c.time] (by simp) (lineOk (by simp [wStart,wPoll,wBeat,wFail,wCancel,wTick,wState]; try omega) (by simp))).toA _ [], ?_⟩
    simp (maxSteps:=1000000) (disch:=omega) only [rg,gD,simprocAttr]
    (refine fin_x rfl ?_ ?_<;>simp [pack,lo,loL,V.closed,closedL,mv_closed,e])
  by_cases k9:c.kind=9
  · have e:lineS ⟨c,false,false,ms⟩=lineW [wState,c.key]:=by simp [lineS,wordsS,wordsL,k1,k2,k3,k4,k5,k6,k7,k8,k9]
    simp (maxSteps:=1000000) (disch:=omega) only [rg,gD,simprocAttr,k1,k2,k3,k4,k5,k6,k7,k8,k9]
    refine ⟨_,_,_,_,(p_line .full [wState,c.key] (by simp) (lineOk (by simp [wStart,wPoll,wBeat,wFail,wCancel,wTick,wState]; try omega) (by simp))).toA _ [], ?_⟩
    simp (maxSteps:=1000000) (disch:=omega) only [rg,gD,simprocAttr]
    (refine fin_x rfl ?_ ?_<;>simp [pack,lo,loL,V.closed,closedL,mv_closed,e])
  have e:lineS ⟨c,false,false,ms⟩=lineW [wSync]:=by simp [lineS,wordsS,wordsL,k1,k2,k3,k4,k5,k6,k7,k8,k9]
  simp (maxSteps:=1000000) (disch:=omega) only [rg,gD,simprocAttr,k1,k2,k3,k4,k5,k6,k7,k8,k9]
  refine x_frz0 ?_
  simp (maxSteps:=1000000) (disch:=omega) only [rg,gD,simprocAttr]
  refine ⟨_,_,_,_,(p_line .full [wSync] (by simp) (lineOk (by simp [wSync]) (by simp))).toA _ [], ?_⟩
  simp (maxSteps:=1000000) (disch:=omega) only [rg,gD,simprocAttr]
  (refine fin_x rfl ?_ ?_<;>simp [pack,lo,loL,V.closed,closedL,mv_closed,e])
end
theorem r_name (s:Str) (hs:s.length≤4611686018427387904):PCall Tryd.prog 36 [.str s] (.bool (nameB s)):=by
  refine en36 (by simp) (by simp [closedL,V.closed]) ?_
  simp (maxSteps:=1000000) (disch:=omega) only [rg,gD,simprocAttr,c36]
  refine x_it s.length (fun i σ H => (s.take i).all lowB=true∧σ=[(0,.str s),(3,.int .i64 i)]) ⟨rfl,rfl⟩ ?_
  rintro T i σ ⟨n,m⟩ hi ⟨ha,rfl⟩ hN hX hR
  simp (maxSteps:=1000000) (disch:=omega) only [rg,gD,simprocAttr]
  refine ⟨fun h => ?_,fun h => ?_⟩
  · have i1:i < s.length:=by omega
    have hget:s[i]?=some s[i]:=by simp [i1]
    have no:lowB s[i]=false→nameB s=false:=fun hb => by
      rw [nameB,Bool.and_eq_false_iff]; right
      rw [List.all_eq_false]; exact ⟨s[i],List.getElem_mem i1,by rw [hb]; simp⟩
    by_cases c1:((s[i].toNat:Nat):Int) < 97
    · simp (maxSteps:=1000000) (disch:=omega) only [rg,gD,simprocAttr,hget,c1]
      refine hR _ _ ?_
      simp (maxSteps:=1000000) (disch:=omega) only [rg,gD,simprocAttr]
      (refine fin_x rfl ?_ ?_<;>simp [pack,lo,loL,V.closed,closedL,mv_closed,no (by simp only [lowB,decide_eq_false_iff_not]; omega)])
    by_cases c2:(122:Int) < ((s[i].toNat:Nat):Int)
    · simp (maxSteps:=1000000) (disch:=omega) only [rg,gD,simprocAttr,hget,c1,c2]
      refine hR _ _ ?_
      simp (maxSteps:=1000000) (disch:=omega) only [rg,gD,simprocAttr]
      (refine fin_x rfl ?_ ?_<;>simp [pack,lo,loL,V.closed,closedL,mv_closed,no (by simp only [lowB,decide_eq_false_iff_not]; omega)])
    simp (maxSteps:=1000000) (disch:=omega) only [rg,gD,simprocAttr,hget,c1,c2]
    refine hN _ _ i1 ⟨?_,rfl⟩
    rw [List.take_succ_eq_append_getElem i1,List.all_append,ha]
    simp only [List.all_cons,List.all_nil,Bool.and_true,Bool.true_and,lowB,decide_eq_true_eq]; omega
  · obtain rfl:i=s.length:=by omega
    rw [List.take_length] at ha
    refine hX _ _ _ ?_
    simp (maxSteps:=1000000) (disch:=omega) only [rg,gD,simprocAttr]
    refine x_frz0 ?_
    by_cases d1:(1:Int)≤s.length
    · by_cases d2:(s.length:Int)≤16
      · simp (maxSteps:=1000000) (disch:=omega) only [rg,gD,simprocAttr,d1,d2]
        (refine fin_x rfl ?_ ?_<;>simp [pack,lo,loL,V.closed,closedL,mv_closed,nameB,ha,show 1≤s.length∧s.length≤16 by omega])
      · simp (maxSteps:=1000000) (disch:=omega) only [rg,gD,simprocAttr,d1,d2]
        (refine fin_x rfl ?_ ?_<;>simp [pack,lo,loL,V.closed,closedL,mv_closed,nameB,show ¬ (1≤s.length∧s.length≤16) by omega])
    · simp (maxSteps:=1000000) (disch:=omega) only [rg,gD,simprocAttr,d1]
      (refine fin_x rfl ?_ ?_<;>simp [pack,lo,loL,V.closed,closedL,mv_closed,nameB,show ¬ (1≤s.length∧s.length≤16) by omega])
theorem noneC_iff (c:Cmd):noneC c=decide (c=zeroC):=by
  obtain ⟨a,b,d,e,f,g,⟨n,l⟩⟩:=c
  simp only [noneC,zeroC,noDag,zeroD,decide_eq_decide,Cmd.mk.injEq,Dag.mk.injEq,List.length_eq_zero_iff]
theorem r_none (c:Cmd) (hc:fOkDagL c.dag):PCall Tryd.prog 23 [cmdV c] (.bool (noneC c)):=by
  refine en23 (by simp) (by simp [closedL,cmdV_closed]) ?_
  have k:=like_cmd c zeroC hc ⟨by simp [zeroC,zeroD],fun t ht => by simp [zeroC,zeroD] at ht⟩
  rw [← noneC_iff] at k
  unfold cmdV tasksV at k
  simp (maxSteps:=1000000) (disch:=omega) only [rg,gD,simprocAttr,c23,cmdV,tasksV]
  refine ⟨_,PCall.of_eq k (by simp only [loL,lo,mv_lo taskV_lo]; rfl), ?_⟩
  simp (maxSteps:=1000000) (disch:=omega) only [rg,gD,simprocAttr]
  (refine fin_x rfl ?_ ?_<;>simp [pack,lo,loL,V.closed,closedL,mv_closed])
theorem r_command (c:Cmd) (hc:okCmd c):PCall Tryd.prog 24 [cmdV c] (.bool (lineCmd c)):=by
  refine en24 (by simp) (by simp [closedL,cmdV_closed]) ?_
  have kp:=ref23_put c hc
  unfold cmdV tasksV at kp
  by_cases hP:cmdP c
  case neg =>
    have e:cmdPutS c=([],1):=by rw [cmdPutS,if_neg hP]
    have el:lineCmd c=false:=by rw [lineCmd,decide_eq_false hP]; rfl
    rw [e] at kp
    simp (maxSteps:=1000000) (disch:=omega) only [rg,gD,simprocAttr,c24,cmdV,tasksV]
    refine ⟨_,kp, ?_⟩
    simp (maxSteps:=1000000) (disch:=omega) only [rg,gD,simprocAttr,sV]
    (refine fin_x rfl ?_ ?_<;>simp [pack,lo,loL,V.closed,closedL,mv_closed,el])
  have e:cmdPutS c=(sealS (cmdB c),0):=by rw [cmdPutS,if_pos hP]
  rw [e] at kp
  by_cases t1:(1099511627776:Int) < c.token
  · have el:lineCmd c=false:=by rw [lineCmd,timeOk,decide_eq_true hP,decide_eq_false (by omega)]; rfl
    simp (maxSteps:=1000000) (disch:=omega) only [rg,gD,simprocAttr,c24,cmdV,tasksV]
    refine ⟨_,kp, ?_⟩
    simp (maxSteps:=1000000) (disch:=omega) only [rg,gD,simprocAttr,sV,t1]
    (refine fin_x rfl ?_ ?_<;>simp [pack,lo,loL,V.closed,closedL,mv_closed,el])
  by_cases t2:(1099511627776:Int) < c.time
  · have el:lineCmd c=false:=by rw [lineCmd,timeOk,decide_eq_true hP,decide_eq_false (by omega)]; rfl
    simp (maxSteps:=1000000) (disch:=omega) only [rg,gD,simprocAttr,c24,cmdV,tasksV]
    refine ⟨_,kp, ?_⟩
    simp (maxSteps:=1000000) (disch:=omega) only [rg,gD,simprocAttr,sV,t1,t2]
    (refine fin_x rfl ?_ ?_<;>simp [pack,lo,loL,V.closed,closedL,mv_closed,el])
  have el:lineCmd c=wordsOk c:=by rw [lineCmd,timeOk,decide_eq_true hP,decide_eq_true (by omega)]; rfl
  simp (maxSteps:=1000000) (disch:=omega) only [rg,gD,simprocAttr,c24,cmdV,tasksV]
  refine ⟨_,kp, ?_⟩
  simp (maxSteps:=1000000) (disch:=omega) only [rg,gD,simprocAttr,sV,t1,t2]
  by_cases k1:c.kind=1
  · have e2:lineCmd c=nameB c.dag.name:=by rw [el,wordsOk,if_pos k1]
    have hd:=right_fit (hP.2.2.2.2 k1)
    simp (maxSteps:=1000000) (disch:=omega) only [rg,gD,simprocAttr,k1]
    refine ⟨_,r_name _ (by omega), ?_⟩
    simp (maxSteps:=1000000) (disch:=omega) only [rg,gD,simprocAttr]
    (refine fin_x rfl ?_ ?_<;>simp [pack,lo,loL,V.closed,closedL,mv_closed,e2])
  by_cases k2:c.kind=2
  · have e2:lineCmd c=(nameB c.key && nameB c.name):=by rw [el,wordsOk,if_neg k1,if_pos k2]
    simp (maxSteps:=1000000) (disch:=omega) only [rg,gD,simprocAttr,k1,k2]
    refine ⟨_,r_name _ (by have:=hP.2.2.2.1; unfold fitP at this; omega), ?_⟩
    cases hn:nameB c.key with
    | false =>
      rw [hn,Bool.false_and] at e2
      simp (maxSteps:=1000000) (disch:=omega) only [rg,gD,simprocAttr]
      (refine fin_x rfl ?_ ?_<;>simp [pack,lo,loL,V.closed,closedL,mv_closed,e2])
    | true =>
      rw [hn,Bool.true_and] at e2
      simp (maxSteps:=1000000) (disch:=omega) only [rg,gD,simprocAttr]
      refine ⟨_,r_name _ (by have:=hP.2.2.2.1; unfold fitP at this; omega), ?_⟩
      simp (maxSteps:=1000000) (disch:=omega) only [rg,gD,simprocAttr]
      (refine fin_x rfl ?_ ?_<;>simp [pack,lo,loL,V.closed,closedL,mv_closed,e2])
  by_cases k5:c.kind=5
  · by_cases x:c.text=[]
    · have e2:lineCmd c=true:=by rw [el,wordsOk,if_neg k1,if_neg k2,if_pos k5,decide_eq_true x]; rfl
      simp (maxSteps:=1000000) (disch:=omega) only [rg,gD,simprocAttr,k1,k2,k5,x]
      (refine fin_x rfl ?_ ?_<;>simp [pack,lo,loL,V.closed,closedL,mv_closed,e2])
    · have e2:lineCmd c=nameB c.text:=by rw [el,wordsOk,if_neg k1,if_neg k2,if_pos k5,decide_eq_false x]; rfl
      simp (maxSteps:=1000000) (disch:=omega) only [rg,gD,simprocAttr,k1,k2,k5,x]
      refine ⟨_,r_name _ (by have:=hP.2.2.2.1; unfold fitP at this; omega), ?_⟩
      simp (maxSteps:=1000000) (disch:=omega) only [rg,gD,simprocAttr]
      (refine fin_x rfl ?_ ?_<;>simp [pack,lo,loL,V.closed,closedL,mv_closed,e2])
  by_cases k7:c.kind=7
  · have e2:lineCmd c=nameB c.key:=by rw [el,wordsOk,if_neg k1,if_neg k2,if_neg k5,if_pos (.inl k7)]
    simp (maxSteps:=1000000) (disch:=omega) only [rg,gD,simprocAttr,k1,k2,k5,k7]
    refine ⟨_,r_name _ (by have:=hP.2.2.2.1; unfold fitP at this; omega), ?_⟩
    simp (maxSteps:=1000000) (disch:=omega) only [rg,gD,simprocAttr]
    (refine fin_x rfl ?_ ?_<;>simp [pack,lo,loL,V.closed,closedL,mv_closed,e2])
  by_cases k9:c.kind=9
  · have e2:lineCmd c=nameB c.key:=by rw [el,wordsOk,if_neg k1,if_neg k2,if_neg k5,if_pos (.inr k9)]
    simp (maxSteps:=1000000) (disch:=omega) only [rg,gD,simprocAttr,k1,k2,k5,k7,k9]
    refine ⟨_,r_name _ (by have:=hP.2.2.2.1; unfold fitP at this; omega), ?_⟩
    simp (maxSteps:=1000000) (disch:=omega) only [rg,gD,simprocAttr]
    (refine fin_x rfl ?_ ?_<;>simp [pack,lo,loL,V.closed,closedL,mv_closed,e2])
  have e2:lineCmd c=true:=by rw [el,wordsOk,if_neg k1,if_neg k2,if_neg k5,if_neg (by omega)]
  simp (maxSteps:=1000000) (disch:=omega) only [rg,gD,simprocAttr,k1,k2,k5,k7,k9]
  (refine fin_x rfl ?_ ?_<;>simp [pack,lo,loL,V.closed,closedL,mv_closed,e2])
theorem r_step (s:Stp) (h:okStp s):PCall Tryd.prog 14 [stpV s] (.bool (stpB s)):=by
  refine en14 (by simp) (by simp [closedL,stpV_closed]) ?_
  obtain ⟨c,chk,cr,ms⟩:=s
  obtain ⟨hc,hm⟩:=h
  simp only at hc hm
  have kn:=r_none c ⟨hc.2.2.2.1,hc.2.2.2.2.1⟩
  have kc:=r_command c hc
  unfold cmdV tasksV at kn kc
  simp (maxSteps:=1000000) (disch:=omega) only [rg,gD,simprocAttr,c14,stpV,tasksV,vI_len]
  refine x_it ms.length (fun i σ H => 1≤H.n∧H.m 0=some (.arr 11 [.agg [.int .i64 c.kind,.str c.key,.str c.name,.int .i64 c.token,.int .i64 c.time,.str c.text,.str c.dag.name,.fsl .loose 4 (mv taskV c.dag.tasks),.bool chk,.bool cr,.fsl .loose 1 (vI ms)]])∧((ms.take i).all maskB=true∧(0 < i→cr=true))∧σ=[(1,.ptr 0 0 0),(6,.fsl .loose 1 (vI ms)),(7,.int .i64 ms.length),(8,.int .i64 i)]) ⟨by simp,(by simp (disch:=omega) only [upd_eq,upd_ne,wo_0,wo_1,wo_2]),⟨rfl,by omega⟩,rfl⟩ ?_
  rintro T i σ ⟨n,m⟩ hi ⟨hn1,e0,⟨ha,hcr⟩,rfl⟩ hN hX hR
  simp only at hn1 e0
  simp (maxSteps:=1000000) (disch:=omega) only [rg,gD,simprocAttr]
  refine ⟨fun hlt => ?_,fun hlt => ?_⟩
  · have i1:i < ms.length:=by omega
    have no:maskB ms[i]=false→stpB ⟨c,chk,cr,ms⟩=false:=fun hb => by
      have hal:ms.all maskB=false:=by rw [List.all_eq_false]; exact ⟨ms[i],List.getElem_mem i1,by rw [hb]; simp⟩
      have hl0:¬ ms.length=0:=by omega
      cases cr<;>cases chk<;>simp [stpB,hal,hl0]
    by_cases c1:ms[i] < 0
    · simp (maxSteps:=1000000) (disch:=omega) only [rg,gD,simprocAttr,vI_get,c1]
      refine hR _ _ ?_
      simp (maxSteps:=1000000) (disch:=omega) only [rg,gD,simprocAttr]
      (refine fin_x rfl ?_ ?_<;>simp [pack,lo,loL,V.closed,closedL,mv_closed,no (by simp only [maskB,decide_eq_false_iff_not]; omega)])
    by_cases c2:(255:Int) < ms[i]
    · simp (maxSteps:=1000000) (disch:=omega) only [rg,gD,simprocAttr,vI_get,c1,c2]
      refine hR _ _ ?_
      simp (maxSteps:=1000000) (disch:=omega) only [rg,gD,simprocAttr]
      (refine fin_x rfl ?_ ?_<;>simp [pack,lo,loL,V.closed,closedL,mv_closed,no (by simp only [maskB,decide_eq_false_iff_not]; omega)])
    cases cr with
    | false =>
      have e:stpB ⟨c,chk,false,ms⟩=false:=by
        have hl0:¬ ms.length=0:=by omega
        cases chk<;>simp [stpB,hl0]
      simp (maxSteps:=1000000) (disch:=omega) only [rg,gD,simprocAttr,vI_get,c1,c2,e0]
      refine hR _ _ ?_
      simp (maxSteps:=1000000) (disch:=omega) only [rg,gD,simprocAttr]
      (refine fin_x rfl ?_ ?_<;>simp [pack,lo,loL,V.closed,closedL,mv_closed,e])
    | true =>
      simp (maxSteps:=1000000) (disch:=omega) only [rg,gD,simprocAttr,vI_get,c1,c2,e0]
      refine hN _ _ i1 ⟨hn1,(by simp (disch:=omega) only [upd_eq,upd_ne,wo_0,wo_1,wo_2,e0]),⟨?_,fun _ => rfl⟩,rfl⟩
      rw [List.take_succ_eq_append_getElem i1,List.all_append,ha]
      simp only [List.all_cons,List.all_nil,Bool.and_true,Bool.true_and,maskB,decide_eq_true_eq]; omega
  · obtain rfl:i=ms.length:=by omega
    rw [List.take_length] at ha
    refine hX _ _ _ ?_
    simp (maxSteps:=1000000) (disch:=omega) only [rg,gD,simprocAttr]
    refine x_frz0 ?_
    cases cr with
    | true =>
      cases chk with
      | true =>
        simp (maxSteps:=1000000) (disch:=omega) only [rg,gD,simprocAttr,e0]
        (refine fin_x rfl ?_ ?_<;>simp [pack,lo,loL,V.closed,closedL,mv_closed,stpB])
      | false =>
        simp (maxSteps:=1000000) (disch:=omega) only [rg,gD,simprocAttr,e0]
        refine ⟨_,kn, ?_⟩
        cases hq:noneC c with
        | false =>
          simp (maxSteps:=1000000) (disch:=omega) only [rg,gD,simprocAttr,e0]
          (refine fin_x rfl ?_ ?_<;>simp [pack,lo,loL,V.closed,closedL,mv_closed,stpB,hq])
        | true =>
          by_cases h64:(ms.length:Int)≤64
          · simp (maxSteps:=1000000) (disch:=omega) only [rg,gD,simprocAttr,e0,vI_len,h64]
            (refine fin_x rfl ?_ ?_<;>simp [pack,lo,loL,V.closed,closedL,mv_closed,stpB,hq,ha,show ms.length≤64 by omega])
          · simp (maxSteps:=1000000) (disch:=omega) only [rg,gD,simprocAttr,e0,vI_len,h64]
            (refine fin_x rfl ?_ ?_<;>simp [pack,lo,loL,V.closed,closedL,mv_closed,stpB,hq,ha,show ¬ ms.length≤64 by omega])
    | false =>
      have hl0:ms.length=0:=by
        rcases Nat.eq_zero_or_pos ms.length with h | h
        · exact h
        · exact absurd (hcr h) (by simp)
      cases chk with
      | true =>
        simp (maxSteps:=1000000) (disch:=omega) only [rg,gD,simprocAttr,e0]
        refine ⟨_,kn, ?_⟩
        simp (maxSteps:=1000000) (disch:=omega) only [rg,gD,simprocAttr]
        (refine fin_x rfl ?_ ?_<;>simp [pack,lo,loL,V.closed,closedL,mv_closed,stpB,hl0])
      | false =>
        simp (maxSteps:=1000000) (disch:=omega) only [rg,gD,simprocAttr,e0]
        refine ⟨_,kc, ?_⟩
        simp (maxSteps:=1000000) (disch:=omega) only [rg,gD,simprocAttr]
        (refine fin_x rfl ?_ ?_<;>simp [pack,lo,loL,V.closed,closedL,mv_closed,stpB,hl0])
theorem r_right (p:Pln) (h:∀ s∈p.steps,okStp s) (hl:p.steps.length≤4611686018427387904):PCall Tryd.prog 5 [plnV p] (.bool (planB p)):=by
  refine en5 (by simp) (by simp [closedL,plnV_closed]) ?_
  simp (maxSteps:=1000000) (disch:=omega) only [rg,gD,simprocAttr,c5,plnV,mv_len]
  refine x_it p.steps.length (fun i σ H => 1≤H.n∧H.m 0=some (.arr 2 [.agg [.int .i64 p.size,.fsl .loose 11 (mv stpV p.steps)]])∧(p.steps.take i).all stpB=true∧σ=[(1,.ptr 0 0 0),(6,.fsl .loose 11 (mv stpV p.steps)),(7,.int .i64 p.steps.length),(8,.int .i64 i)]) ⟨by simp,(by simp (disch:=omega) only [upd_eq,upd_ne,wo_0,wo_1,wo_2]),rfl,rfl⟩ ?_
  rintro T i σ ⟨n,m⟩ hi ⟨hn1,e0,ha,rfl⟩ hN hX hR
  simp only at hn1 e0
  simp (maxSteps:=1000000) (disch:=omega) only [rg,gD,simprocAttr]
  refine ⟨fun hlt => ?_,fun hlt => ?_⟩
  · have i1:i < p.steps.length:=by omega
    have k:=r_step p.steps[i] (h _ (List.getElem_mem i1))
    have hne:(0:Nat)≠n:=by omega
    have no:stpB p.steps[i]=false→planB p=false:=fun hb => by
      have hal:p.steps.all stpB=false:=by rw [List.all_eq_false]; exact ⟨p.steps[i],List.getElem_mem i1,by rw [hb]; simp⟩
      simp [planB,hal]
    simp (maxSteps:=1000000) (disch:=omega) only [rg,gD,simprocAttr,mv_get,stpV,tasksV]
    refine ⟨_,k, ?_⟩
    cases hq:stpB p.steps[i] with
    | false =>
      simp (maxSteps:=1000000) (disch:=omega) only [rg,gD,simprocAttr]
      refine hR _ _ ?_
      simp (maxSteps:=1000000) (disch:=omega) only [rg,gD,simprocAttr]
      (refine fin_x rfl ?_ ?_<;>simp [pack,lo,loL,V.closed,closedL,mv_closed,no hq])
    | true =>
      simp (maxSteps:=1000000) (disch:=omega) only [rg,gD,simprocAttr]
      refine hN _ _ i1 ⟨by simp only []; omega,(by simp (disch:=omega) only [upd_eq,upd_ne,wo_0,wo_1,wo_2,e0]), ?_,rfl⟩
      rw [List.take_succ_eq_append_getElem i1,List.all_append,ha]
      simp [hq]
  · obtain rfl:i=p.steps.length:=by omega
    rw [List.take_length] at ha
    refine hX _ _ _ ?_
    simp (maxSteps:=1000000) (disch:=omega) only [rg,gD,simprocAttr]
    refine x_frz0 ?_
    by_cases a:(24:Int)≤p.size
    case neg =>
      simp (maxSteps:=1000000) (disch:=omega) only [rg,gD,simprocAttr,e0,a]
      (refine fin_x rfl ?_ ?_<;>simp [pack,lo,loL,V.closed,closedL,mv_closed,planB,show ¬ (24≤p.size∧p.size≤200) by omega])
    by_cases b:p.size≤(200:Int)
    case neg =>
      simp (maxSteps:=1000000) (disch:=omega) only [rg,gD,simprocAttr,e0,a,b]
      (refine fin_x rfl ?_ ?_<;>simp [pack,lo,loL,V.closed,closedL,mv_closed,planB,show ¬ (24≤p.size∧p.size≤200) by omega])
    by_cases d:(p.steps.length:Int)≤200
    · simp (maxSteps:=1000000) (disch:=omega) only [rg,gD,simprocAttr,e0,a,b,mv_len,d]
      (refine fin_x rfl ?_ ?_<;>simp [pack,lo,loL,V.closed,closedL,mv_closed,planB,ha,show (24≤p.size∧p.size≤200) by omega,show p.steps.length≤200 by omega])
    · simp (maxSteps:=1000000) (disch:=omega) only [rg,gD,simprocAttr,e0,a,b,mv_len,d]
      (refine fin_x rfl ?_ ?_<;>simp [pack,lo,loL,V.closed,closedL,mv_closed,planB,show ¬ p.steps.length≤200 by omega])
section
theorem tail_snoc (sep:Str) (l:List Str) (w:Str):Lib.joinTail sep (l++[w])=Lib.joinTail sep l++sep++w:=by simp [Lib.joinTail]
theorem tail_nil (sep:Str):Lib.joinTail sep []=[]:=rfl
def tkH (t:Task):Str:=((((Lib.itoa t.tries++[44])++Lib.itoa t.wait)++[44])++Lib.itoa t.lease)
theorem taskW_eq (t:Task):taskW t=tkH t++Lib.joinTail [44] (numW t.needs):=by
  simp [taskW,tkH,numW,Lib.join_cons,Lib.joinTail]
def grT (d:Dag) (i:Nat):Str:=((wGraph++[32])++d.name)++Lib.joinTail [32] ((d.tasks.take i).map taskW)
theorem r_graph (d:Dag) (hn:d.name.length≤16) (ht:d.tasks.length≤10) (htk:∀ t∈d.tasks,okTk t∧t.needs.length≤10):PCall Tryd.prog 30 [dagV d] (.str (Lib.join ([wGraph,d.name]++d.tasks.map taskW) [32])):=by
  refine en30 (by simp) (by simp [closedL,dagV_closed]) ?_
  simp (maxSteps:=1000000) (disch:=omega) only [rg,gD,simprocAttr,c30,dagV,tasksV,mv_len]
  refine ⟨by first | omega | (simp; omega), ?_⟩
  refine x_it d.tasks.length (fun i σ H => ∃ v,v=grT d i∧v.length≤100+1000*i∧σ=[(3,.str v),(12,.fsl .loose 4 (mv taskV d.tasks)),(13,.int .i64 d.tasks.length),(14,.int .i64 i)]) ⟨_,rfl,by simp [grT,wGraph,tail_nil]; omega,by simp [grT,wGraph,tail_nil]⟩ ?_
  rintro T i σ ⟨n,m⟩ hi ⟨v,hv,hvl,rfl⟩ hN hX hR
  simp (maxSteps:=1000000) (disch:=omega) only [rg,gD,simprocAttr]
  refine ⟨fun hlt => ?_,fun hlt => ?_⟩
  · have i1:i < d.tasks.length:=by omega
    obtain ⟨hk,hnl⟩:=htk d.tasks[i] (List.getElem_mem i1)
    have hvs:grT d (i+1)=grT d i++[32]++taskW d.tasks[i]:=by
      rw [grT,grT,List.take_succ_eq_append_getElem i1,List.map_append,List.map_cons,List.map_nil,tail_snoc]; simp only [List.append_assoc]
    simp (maxSteps:=1000000) (disch:=omega) only [rg,gD,simprocAttr,mv_get,taskV]
    generalize d.tasks[i]=t at hk hnl hvs
    have b1:=itoa_len hk.2.1
    have b2:=itoa_len hk.2.2.1
    have b3:=itoa_len hk.2.2.2
    refine ⟨by omega,_,p_itoa _ hk.2.1, ?_⟩
    simp (maxSteps:=1000000) (disch:=omega) only [rg,gD,simprocAttr]
    refine ⟨by first | omega | (simp; omega),by first | omega | (simp; omega),_,p_itoa _ hk.2.2.1, ?_⟩
    simp (maxSteps:=1000000) (disch:=omega) only [rg,gD,simprocAttr]
    refine ⟨by first | omega | (simp; omega),by first | omega | (simp; omega),_,p_itoa _ hk.2.2.2, ?_⟩
    simp (maxSteps:=1000000) (disch:=omega) only [rg,gD,simprocAttr]
    refine ⟨by first | omega | (simp; omega), ?_⟩
    rw [vI_len]
    have hv1:(v++[32]++Lib.itoa t.tries++[44]++Lib.itoa t.wait++[44]++Lib.itoa t.lease)=(v++[32])++tkH t:=by simp only [tkH,List.append_assoc]
    rw [hv1]
    have hvl1:((v++[32])++tkH t).length≤170+1000*i:=by simp [tkH]; omega
    generalize hu0:(v++[32])++tkH t=u0 at hvl1
    refine x_it t.needs.length (fun j σ H => ∃ u,u=u0++Lib.joinTail [44] (numW (t.needs.take j))∧u.length≤170+1000*i+21*j∧σ=[(3,.str u),(12,.fsl .loose 4 (mv taskV d.tasks)),(13,.int .i64 d.tasks.length),(14,.int .i64 i),(35,.fsl .loose 1 (vI t.needs)),(36,.int .i64 t.needs.length),(37,.int .i64 j)]) ⟨_,by simp [numW,tail_nil],by omega,rfl⟩ ?_
    rintro T2 j σ ⟨n2,m2⟩ hj ⟨u,hu,hul,rfl⟩ hN2 hX2 hR2
    simp (maxSteps:=1000000) (disch:=omega) only [rg,gD,simprocAttr]
    refine ⟨fun hlt2 => ?_,fun hlt2 => ?_⟩
    · have j1:j < t.needs.length:=by omega
      have hx:=hk.1 t.needs[j] (List.getElem_mem j1)
      have b4:=itoa_len hx
      have hus:u0++Lib.joinTail [44] (numW (t.needs.take (j+1)))=u++[44]++Lib.itoa t.needs[j]:=by
        rw [hu,List.take_succ_eq_append_getElem j1,numW,List.map_append,List.map_cons,List.map_nil,tail_snoc,numW]; simp only [List.append_assoc]
      simp (maxSteps:=1000000) (disch:=omega) only [rg,gD,simprocAttr,vI_get]
      refine ⟨by omega,_,p_itoa _ hx, ?_⟩
      simp (maxSteps:=1000000) (disch:=omega) only [rg,gD,simprocAttr]
      refine ⟨by first | omega | (simp; omega), ?_⟩
      exact hN2 _ _ j1 ⟨_,hus.symm,by simp; omega,rfl⟩
    · obtain rfl:j=t.needs.length:=by omega
      refine hX2 _ _ _ ?_
      simp (maxSteps:=1000000) (disch:=omega) only [rg,gD,simprocAttr]
      refine x_frz0 ?_
      simp (maxSteps:=1000000) (disch:=omega) only [rg,gD,simprocAttr]
      refine hN _ _ i1 ⟨u, ?_,by omega,rfl⟩
      rw [hvs,taskW_eq,← hv,hu,List.take_length,← hu0]; simp only [List.append_assoc]
  · obtain rfl:i=d.tasks.length:=by omega
    refine hX _ _ _ ?_
    simp (maxSteps:=1000000) (disch:=omega) only [rg,gD,simprocAttr]
    refine x_frz0 ?_
    have e:v=Lib.join ([wGraph,d.name]++d.tasks.map taskW) [32]:=by
      rw [hv,grT,List.take_length]; simp [Lib.join_cons,Lib.joinTail]
    rw [e]
    simp (maxSteps:=1000000) (disch:=omega) only [rg,gD,simprocAttr]
    (refine fin_x rfl ?_ ?_<;>simp [pack,lo,loL,V.closed,closedL,mv_closed])
/-! Words. -/
set_option maxHeartbeats 1000000 in
theorem r_words (s:Stp) (h:okLn s):PCall Tryd.prog 18 [stpV s] (.str (Lib.join (wordsS s) [32])):=by
  refine en18 (by simp) (by simp [closedL,stpV_closed]) ?_
  obtain ⟨hb,hi1,hi2,hts,hms⟩:=h
  obtain ⟨c,chk,cr,ms⟩:=s
  simp only at hi1 hi2 hts hms
  have a20:=itoa_len hi1
  have b20:=itoa_len hi2
  simp (maxSteps:=1000000) (disch:=omega) only [rg,gD,simprocAttr,c18,stpV,tasksV]
  refine ⟨_,p_itoa _ hi1, ?_⟩
  simp (maxSteps:=1000000) (disch:=omega) only [rg,gD,simprocAttr]
  cases cr with
  | true =>
    have h64:ms.length≤64:=by simp [stpB] at hb; exact hb.1.2
    simp (maxSteps:=1000000) (disch:=omega) only [rg,gD,simprocAttr,vI_len]
    refine x_it ms.length (fun i σ H => ∃ v,v=wCrash++Lib.joinTail [32] (numW (ms.take i))∧v.length≤5+21*i∧σ=[(5,.str v),(16,.fsl .loose 1 (vI ms)),(17,.int .i64 ms.length),(18,.int .i64 i)]) ⟨_,by simp [numW,tail_nil,wCrash],by simp,rfl⟩ ?_
    rintro T i σ ⟨n,m⟩ hi ⟨v,hv,hvl,rfl⟩ hN hX hR
    simp (maxSteps:=1000000) (disch:=omega) only [rg,gD,simprocAttr]
    refine ⟨fun hlt => ?_,fun hlt => ?_⟩
    · have i1:i < ms.length:=by omega
      have hx:=hms ms[i] (List.getElem_mem i1)
      have b4:=itoa_len hx
      have hus:wCrash++Lib.joinTail [32] (numW (ms.take (i+1)))=v++[32]++Lib.itoa ms[i]:=by
        rw [hv,List.take_succ_eq_append_getElem i1,numW,List.map_append,List.map_cons,List.map_nil,tail_snoc,numW]; simp only [List.append_assoc]
      simp (maxSteps:=1000000) (disch:=omega) only [rg,gD,simprocAttr,vI_get]
      refine ⟨by omega,_,p_itoa _ hx, ?_⟩
      simp (maxSteps:=1000000) (disch:=omega) only [rg,gD,simprocAttr]
      refine ⟨by first | omega | (simp; omega), ?_⟩
      exact hN _ _ i1 ⟨_,hus.symm,by simp; omega,rfl⟩
    · obtain rfl:i=ms.length:=by omega
      refine hX _ _ _ ?_
      simp (maxSteps:=1000000) (disch:=omega) only [rg,gD,simprocAttr]
      refine x_frz0 ?_
      have e:Lib.join (wordsS ⟨c,chk,true,ms⟩) [32]=v:=by
        rw [hv,List.take_length]; simp [wordsS,Lib.join_cons]
      simp (maxSteps:=1000000) (disch:=omega) only [rg,gD,simprocAttr]
      (refine fin_x rfl ?_ ?_<;>simp [pack,lo,loL,V.closed,closedL,mv_closed,e])
  | false =>
  simp (maxSteps:=1000000) (disch:=omega) only [rg,gD,simprocAttr]
  refine x_frz0 ?_
  cases chk with
  | true =>
    have e:Lib.join (wordsS ⟨c,true,false,ms⟩) [32]=[99,104,101,99,107]:=by simp [wordsS,Lib.join_one,wCheck]
    simp (maxSteps:=1000000) (disch:=omega) only [rg,gD,simprocAttr]
    (refine fin_x rfl ?_ ?_<;>simp [pack,lo,loL,V.closed,closedL,mv_closed,e])
  | false =>
  have hcm:lineCmd c=true:=by simp [stpB] at hb; exact hb.1
  have hP:cmdP c:=by simp [lineCmd] at hcm; exact hcm.1.1
  have hfit:fitP c:=hP.2.2.2.1
  unfold fitP at hfit
  simp (maxSteps:=1000000) (disch:=omega) only [rg,gD,simprocAttr]
  by_cases k1:c.kind=1
  · have hd:=right_fit (hP.2.2.2.2 k1)
    have e:Lib.join (wordsS ⟨c,false,false,ms⟩) [32]=Lib.join ([wGraph,c.dag.name]++c.dag.tasks.map taskW) [32]:=by simp [wordsS,wordsL,k1]
    have kg:=r_graph c.dag hd.2.2.1 hd.2.1 (fun t ht => ⟨hts t ht,hd.2.2.2.2 t ht⟩)
    unfold dagV tasksV at kg
    simp (maxSteps:=1000000) (disch:=omega) only [rg,gD,simprocAttr,k1]
    refine ⟨_,kg, ?_⟩
    simp (maxSteps:=1000000) (disch:=omega) only [rg,gD,simprocAttr]
    (refine fin_x rfl ?_ ?_<;>simp [pack,lo,loL,V.closed,closedL,mv_closed,e])
  by_cases k2:c.kind=2
  · have e:Lib.join (wordsS ⟨c,false,false,ms⟩) [32]=(([115,116,97,114,116,32]++c.key)++[32])++c.name:=by simp [wordsS,wordsL,k1,k2,Lib.join_cons,Lib.joinTail,wStart]
    simp (maxSteps:=1000000) (disch:=omega) only [rg,gD,simprocAttr,k1,k2]
    refine ⟨by first | omega | (simp; omega),by first | omega | (simp; omega),by first | omega | (simp; omega), ?_⟩
    (refine fin_x rfl ?_ ?_<;>simp [pack,lo,loL,V.closed,closedL,mv_closed,e])
  by_cases k3:c.kind=3
  · have e:Lib.join (wordsS ⟨c,false,false,ms⟩) [32]=[112,111,108,108]:=by simp [wordsS,wordsL,k1,k2,k3,Lib.join_cons,Lib.joinTail,wPoll]
    simp (maxSteps:=1000000) (disch:=omega) only [rg,gD,simprocAttr,k1,k2,k3]
    (refine fin_x rfl ?_ ?_<;>simp [pack,lo,loL,V.closed,closedL,mv_closed,e])
  by_cases k4:c.kind=4
  · have e:Lib.join (wordsS ⟨c,false,false,ms⟩) [32]=[98,101,97,116,32]++Lib.itoa c.token:=by simp [wordsS,wordsL,k1,k2,k3,k4,Lib.join_cons,Lib.joinTail,wBeat]
    simp (maxSteps:=1000000) (disch:=omega) only [rg,gD,simprocAttr,k1,k2,k3,k4]
    refine ⟨by first | omega | (simp; omega), ?_⟩
    (refine fin_x rfl ?_ ?_<;>simp [pack,lo,loL,V.closed,closedL,mv_closed,e])
  by_cases k5:c.kind=5
  · by_cases x:c.text=[]
    · have e:Lib.join (wordsS ⟨c,false,false,ms⟩) [32]=[100,111,110,101,32]++Lib.itoa c.token:=by simp [wordsS,wordsL,k1,k2,k3,k4,k5,x,Lib.join_cons,Lib.joinTail,wDone]
      simp (maxSteps:=1000000) (disch:=omega) only [rg,gD,simprocAttr,k1,k2,k3,k4,k5,x]
      refine ⟨by first | omega | (simp; omega), ?_⟩
      (refine fin_x rfl ?_ ?_<;>simp [pack,lo,loL,V.closed,closedL,mv_closed,e])
    · have e:Lib.join (wordsS ⟨c,false,false,ms⟩) [32]=(([100,111,110,101,32]++Lib.itoa c.token)++[32])++c.text:=by simp [wordsS,wordsL,k1,k2,k3,k4,k5,x,Lib.join_cons,Lib.joinTail,wDone]
      simp (maxSteps:=1000000) (disch:=omega) only [rg,gD,simprocAttr,k1,k2,k3,k4,k5,x]
      refine ⟨by first | omega | (simp; omega),by first | omega | (simp; omega),by first | omega | (simp; omega), ?_⟩
      (refine fin_x rfl ?_ ?_<;>simp [pack,lo,loL,V.closed,closedL,mv_closed,e])
  by_cases k6:c.kind=6
  · have e:Lib.join (wordsS ⟨c,false,false,ms⟩) [32]=[102,97,105,108,32]++Lib.itoa c.token:=by simp [wordsS,wordsL,k1,k2,k3,k4,k5,k6,Lib.join_cons,Lib.joinTail,wFail]
    simp (maxSteps:=1000000) (disch:=omega) only [rg,gD,simprocAttr,k1,k2,k3,k4,k5,k6]
    refine ⟨by first | omega | (simp; omega), ?_⟩
    (refine fin_x rfl ?_ ?_<;>simp [pack,lo,loL,V.closed,closedL,mv_closed,e])
  by_cases k7:c.kind=7
  · have e:Lib.join (wordsS ⟨c,false,false,ms⟩) [32]=[99,97,110,99,101,108,32]++c.key:=by simp [wordsS,wordsL,k1,k2,k3,k4,k5,k6,k7,Lib.join_cons,Lib.joinTail,wCancel]
    simp (maxSteps:=1000000) (disch:=omega) only [rg,gD,simprocAttr,k1,k2,k3,k4,k5,k6,k7]
    refine ⟨by first | omega | (simp; omega), ?_⟩
    (refine fin_x rfl ?_ ?_<;>simp [pack,lo,loL,V.closed,closedL,mv_closed,e])
  by_cases k8:c.kind=8
  · have e:Lib.join (wordsS ⟨c,false,false,ms⟩) [32]=[116,105,99,107,32]++Lib.itoa c.time:=by simp [wordsS,wordsL,k1,k2,k3,k4,k5,k6,k7,k8,Lib.join_cons,Lib.joinTail,wTick]
    simp (maxSteps:=1000000) (disch:=omega) only [rg,gD,simprocAttr,k1,k2,k3,k4,k5,k6,k7,k8]
    refine ⟨_,p_itoa _ hi2, ?_⟩
    simp (maxSteps:=1000000) (disch:=omega) only [rg,gD,simprocAttr]
    refine ⟨by first | omega | (simp; omega), ?_⟩
    (refine fin_x rfl ?_ ?_<;>simp [pack,lo,loL,V.closed,closedL,mv_closed,e])
  by_cases k9:c.kind=9
  · have e:Lib.join (wordsS ⟨c,false,false,ms⟩) [32]=[115,116,97,116,101,32]++c.key:=by simp [wordsS,wordsL,k1,k2,k3,k4,k5,k6,k7,k8,k9,Lib.join_cons,Lib.joinTail,wState]
    simp (maxSteps:=1000000) (disch:=omega) only [rg,gD,simprocAttr,k1,k2,k3,k4,k5,k6,k7,k8,k9]
    refine ⟨by first | omega | (simp; omega), ?_⟩
    (refine fin_x rfl ?_ ?_<;>simp [pack,lo,loL,V.closed,closedL,mv_closed,e])
  have e:Lib.join (wordsS ⟨c,false,false,ms⟩) [32]=[115,121,110,99]:=by simp [wordsS,wordsL,k1,k2,k3,k4,k5,k6,k7,k8,k9,Lib.join_one,wSync]
  simp (maxSteps:=1000000) (disch:=omega) only [rg,gD,simprocAttr,k1,k2,k3,k4,k5,k6,k7,k8,k9]
  (refine fin_x rfl ?_ ?_<;>simp [pack,lo,loL,V.closed,closedL,mv_closed,e])
theorem wordsS_len {s:Stp} (h:okLn s):(Lib.join (wordsS s) [32]).length≤200000:=by
  obtain ⟨hb,hi1,hi2,hts,hms⟩:=h
  obtain ⟨c,chk,cr,ms⟩:=s
  simp only at hi1 hi2 hts hms
  have a20:=itoa_len hi1
  have b20:=itoa_len hi2
  have go:∀ ws:List Str,(∀ w∈ws,w.length≤1000)→ws.length≤100→(Lib.join ws [32]).length≤200000:=fun ws hw hn => by
    have h1:=join_len (sep:=[32]) hw
    have h2:ws.length*([(32:UInt8)].length+1000)≤100*([(32:UInt8)].length+1000):=Nat.mul_le_mul_right _ hn
    simp only [List.length_singleton] at h1 h2
    omega
  cases cr with
  | true =>
    have h64:ms.length≤64:=by simp [stpB] at hb; exact hb.1.2
    refine go _ (fun w hw => ?_) (by simp [wordsS,numW_len]; omega)
    simp only [wordsS,if_true,List.mem_append,List.mem_singleton] at hw
    rcases hw with rfl | hw
    · decide
    · have:=numW_in hms w hw; omega
  | false =>
  cases chk with
  | true => exact go _ (by simp [wordsS,wCheck]) (by simp [wordsS])
  | false =>
  have hcm:lineCmd c=true:=by simp [stpB] at hb; exact hb.1
  have hP:cmdP c:=by simp [lineCmd] at hcm; exact hcm.1.1
  have hfit:fitP c:=hP.2.2.2.1
  unfold fitP at hfit
  by_cases k1:c.kind=1
  · have hd:=right_fit (hP.2.2.2.2 k1)
    refine go _ (fun w hw => ?_) (by simp [wordsS,wordsL,k1]; omega)
    simp only [wordsS,wordsL,k1,if_true,List.mem_append,List.mem_cons,List.not_mem_nil,or_false,List.mem_map,Bool.false_eq_true,if_false] at hw
    rcases hw with (rfl | rfl) | ⟨t,ht,rfl⟩
    · decide
    · omega
    · exact taskW_len (hts t ht) (hd.2.2.2.2 t ht)
  · refine go _ (fun w hw => ?_) ?_
    · simp only [wordsS,wordsL,k1,if_false,Bool.false_eq_true] at hw
      repeat' split at hw
      all_goals (simp only [List.mem_cons,List.not_mem_nil,or_false] at hw)
      all_goals (first | (rcases hw with rfl | rfl | rfl) | (rcases hw with rfl | rfl) | (subst hw))
      all_goals first | decide | omega
    · simp only [wordsS,wordsL,k1,if_false,Bool.false_eq_true]
      repeat' split
      all_goals simp
theorem r_plan (p:Pln) (hn:p.steps.length≤200) (hs:0≤p.size∧p.size≤200) (h:∀ s∈p.steps,okLn s):PCall Tryd.prog 8 [plnV p] (.str (planT p)):=by
  refine en8 (by simp) (by simp [closedL,plnV_closed]) ?_
  have hi:-9223372036854775808≤p.size∧p.size≤9223372036854775807:=by omega
  have b1:=itoa_len hi
  simp (maxSteps:=1000000) (disch:=omega) only [rg,gD,simprocAttr,c8,plnV,mv_len]
  refine ⟨_,p_itoa _ hi, ?_⟩
  simp (maxSteps:=1000000) (disch:=omega) only [rg,gD,simprocAttr,mv_len]
  refine ⟨by first | omega | (simp; omega),by first | omega | (simp; omega), ?_⟩
  refine x_it p.steps.length (fun i σ H => ∃ v,v=sizeW p.size++((p.steps.take i).map lineS).flatten∧v.length≤100+300000*i∧σ=[(3,.str v),(12,.fsl .loose 11 (mv stpV p.steps)),(13,.int .i64 p.steps.length),(14,.int .i64 i)]) ⟨_,rfl,by simp [sizeW,lineW,Lib.join_cons,Lib.joinTail,wSize]; omega,by simp [sizeW,lineW,Lib.join_cons,Lib.joinTail,wSize]⟩ ?_
  rintro T i σ ⟨n,m⟩ hi2 ⟨v,hv,hvl,rfl⟩ hN hX hR
  simp (maxSteps:=1000000) (disch:=omega) only [rg,gD,simprocAttr]
  refine ⟨fun hlt => ?_,fun hlt => ?_⟩
  · have i1:i < p.steps.length:=by omega
    have hk:=h p.steps[i] (List.getElem_mem i1)
    have kw:=r_words p.steps[i] hk
    have hl:=wordsS_len hk
    have hvs:sizeW p.size++((p.steps.take (i+1)).map lineS).flatten=v++Lib.join (wordsS p.steps[i]) [32]++[10]:=by
      rw [hv,List.take_succ_eq_append_getElem i1,List.map_append,List.flatten_append]; simp [lineS,lineW]
    simp (maxSteps:=1000000) (disch:=omega) only [rg,gD,simprocAttr,mv_get,stpV,tasksV]
    refine ⟨_,kw, ?_⟩
    simp (maxSteps:=1000000) (disch:=omega) only [rg,gD,simprocAttr]
    refine ⟨by first | omega | (simp; omega),by first | omega | (simp; omega), ?_⟩
    exact hN _ _ i1 ⟨_,hvs.symm,by simp; omega,rfl⟩
  · obtain rfl:i=p.steps.length:=by omega
    refine hX _ _ _ ?_
    simp (maxSteps:=1000000) (disch:=omega) only [rg,gD,simprocAttr]
    refine x_frz0 ?_
    have e:planT p=v:=by rw [hv,List.take_length]; rfl
    simp (maxSteps:=1000000) (disch:=omega) only [rg,gD,simprocAttr]
    (refine fin_x rfl ?_ ?_<;>simp [pack,lo,loL,V.closed,closedL,mv_closed,e])
end
section
open Go Go.RowKit
abbrev G0 (F:Nat→Option (List Value)):G:=⟨fun _ => none,F⟩
theorem RS.below {F:Nat→Option (List Value)} {w w':World} (h:RS (G0 F) (fun _ => none) w) (hb:Below w.heap.size w w'):RS (G0 F) (fun _ => none) w' :=
  ⟨fun b cs k => by
    obtain ⟨e,fr,h1⟩:=h.fro b cs k
    exact ⟨e,fr,by rw [hb.block b (h.fro_lt k)]; exact h1⟩,by simp,by simp,h.tab⟩
theorem ext_below {F F':Nat→Option (List Value)} {w w':World} (h:Ext (G0 F) (fun _ => none) w (G0 F') (fun _ => none) w'):Below w.heap.size w w' :=
  ⟨h.os,h.tape,h.output,h.size,fun k hk => h.old k hk (fun ⟨_,_,_,_,q,_⟩ => by cases q)⟩
theorem bel_le {A B:Nat} {a b:World} (h:Below B a b) (k:A≤B):Below A a b:=⟨h.os,h.tape,h.output,h.size,fun j hj => h.block j (by omega)⟩
theorem PCall.bool0 {P:Program} {f:Nat} {vs:List V} {b:Bool} (h:PCall P f vs (.bool b)) {F:Nat→Option (List Value)} {w:World} {xs:Array Value} (hs:RS (G0 F) (fun _ => none) w) (hx:RC (G0 F) vs xs.toList) :
    Calls P f xs w fun e w' => e=.returned (.bool b)∧Below w.heap.size w w':=by
  refine (h.2 _ _ _ _ hs hx).mono ?_
  rintro e w' ⟨x,F',rfl,hr,h1,h2⟩
  simp only [R] at hr; subst hr
  exact ⟨rfl,ext_below h2⟩
theorem PCall.str0 {P:Program} {f:Nat} {vs:List V} {s:Str} (h:PCall P f vs (.str s)) {F:Nat→Option (List Value)} {w:World} {xs:Array Value} (hs:RS (G0 F) (fun _ => none) w) (hx:RC (G0 F) vs xs.toList) :
    Calls P f xs w fun e w' => e=.returned (.string ⟨s.toArray⟩)∧Below w.heap.size w w':=by
  refine (h.2 _ _ _ _ hs hx).mono ?_
  rintro e w' ⟨x,F',rfl,hr,h1,h2⟩
  simp only [R] at hr; subst hr
  exact ⟨rfl,ext_below h2⟩
theorem line_two {F:Nat→Option (List Value)} {w:World} (hs:RS (G0 F) (fun _ => none) w) (a b:Str) (ha:a.length≤1000) (hb:b.length≤1000) (ty:TypeId) :
    Calls Tryd.prog 10 #[.slice (some ⟨w.heap.size,0,none⟩) 2 2] (w.alloc (.cells #[.string ⟨a.toArray⟩,.string ⟨b.toArray⟩] ty)) fun e w' => e=.returned (.string ⟨(lineW [a,b]).toArray⟩)∧Below (w.alloc (.cells #[.string ⟨a.toArray⟩,.string ⟨b.toArray⟩] ty)).heap.size (w.alloc (.cells #[.string ⟨a.toArray⟩,.string ⟨b.toArray⟩] ty)) w':=by
  obtain ⟨h1,_⟩:=hs.new_froze (w':=w.alloc (.cells #[.string ⟨a.toArray⟩,.string ⟨b.toArray⟩] ty)) ⟨rfl,rfl,rfl⟩ rfl
  refine (p_line .full [a,b] (by simp) (lineOk (by simp; omega) (by simp))).str0 h1 ?_
  simp only [RC,R]
  refine ⟨_,_,rfl,⟨some ⟨w.heap.size,0,none⟩,2,[.string ⟨a.toArray⟩,.string ⟨b.toArray⟩],rfl, ?_, ?_,by simp [vS,mv],by simp,by simp,by simp [vS,mv],.inr ⟨_,_,rfl,[],[],by simp [G.froze],rfl⟩⟩,rfl⟩
  · simp [vS,mv,RL,R,V.isEl,Value.cells]
  · simp [vS,mv,V.size]
theorem isB_below {T e:TypeId} {B b:Nat} {bs:List Value} {w w':World} (h:Lib.IsBuilder T e B b bs w) (k:Below w.heap.size w w'):Lib.IsBuilder T e B b bs w':=by
  have one:∀ p,Lib.BuilderAt T e B b p bs w→Lib.BuilderAt T e B b p bs w':=by
    rintro p ⟨h1,v,h2,h3,h4⟩
    have hb:=(Array.getElem?_eq_some_iff.1 h2).1
    refine ⟨h1,v,by rw [k.block _ hb]; exact h2,⟨h3.1, ?_⟩,h4⟩
    rcases h3.2 with h3 | ⟨g,cap,cur,q1,q2,q3,q4⟩
    · exact .inl h3
    · exact .inr ⟨g,cap,cur,q1,q2,by rw [k.block _ (Array.getElem?_eq_some_iff.1 q3).1]; exact q3,q4⟩
  rcases h with h | h
  · exact .inl (one _ h)
  · exact .inr (one _ h)
theorem lays_write:Lays.n166 Tryd.prog ren_join:={ lays_join with }
theorem lays_string:Lays.n169 Tryd.prog ren_join:={ lays_join with }
theorem eleven {α:Type} {l:List α} (h:l.length=11):∃ a b c d e f g i j k m,l=[a,b,c,d,e,f,g,i,j,k,m]:=by
  match l,h with
  | [a,b,c,d,e,f,g,i,j,k,m],_ => exact ⟨a,b,c,d,e,f,g,i,j,k,m,rfl⟩
theorem print_walk (p:Pln) (h:∀ s∈p.steps,okStp s) (hln:planB p=true→∀ s∈p.steps,okLn s) (F:Nat→Option (List Value)) (w:World) (x:Value) (hs:RS (G0 F) (fun _ => none) w) (hx:R (G0 F) (plnV p) x) :
    Calls Tryd.prog 4 #[x] w fun e w' => e=.returned (.tuple #[.string ⟨(printS p).1.toArray⟩,.int .i64 (printS p).2])∧Below w.heap.size w w':=by
  have hx0:=hx
  simp only [plnV,R] at hx
  obtain ⟨xs,rfl,hxs,_⟩:=hx
  simp only [RC,R] at hxs
  obtain ⟨y,ys,e1,rfl,z,zs,rfl,⟨a,cap,cells,rfl,k2,k3,k4,k5,k6,k7,k8⟩,rfl⟩:=hxs
  obtain rfl:xs=#[.int .i64 p.size,.slice a (mv stpV p.steps).length cap]:=by apply Array.ext'; simpa using e1
  rw [mv_len] at hx0 k4 k7 ⊢
  have b0:Below w.heap.size w (w.alloc (.cells #[.int .i64 p.size,.slice a p.steps.length cap] 24)):=(Below.refl _ w).alloc (Nat.le_refl _) _
  have hright:=(p_right p h).bool0 (hs.below b0) (xs:=#[.agg #[.int .i64 p.size,.slice a p.steps.length cap]]) (by simp only [RC]; exact ⟨_,_,rfl,hx0,rfl⟩)
  go_enter Tryd.func4,Tryd.ntmps4
  go_wp2_with (go_at_fn 7)
  refine hright.mono ?_
  rintro e w1 ⟨rfl,b1⟩
  cases hp:planB p with
  | false =>
    go_wp2
    go_ret2
    exact ⟨by simp [printS,hp],b0.trans (bel_le b1 b0.size)⟩
  | true =>
    have hbx:w1.heap[w.heap.size]?=some (.cells #[.int .i64 p.size,.slice a p.steps.length cap] 24 (0,0)):=by
      rw [b1.block _ (by simp)]; exact World.alloc_heap_new _ _
    have hlt:=(Array.getElem?_eq_some_iff.1 hbx).1
    have hb2:∀ o,(w1.alloc o).heap[w.heap.size]?=some (.cells #[.int .i64 p.size,.slice a p.steps.length cap] 24 (0,0)):=fun o => by rw [Lib.alloc_old w1 _ _ hlt]; exact hbx
    have c0:(w1.alloc (.cells #[.pointer none,.slice none 0 0] 34)).cell? ⟨w.heap.size,0,none⟩=some (.int .i64 p.size):=by rw [Lib.cell_of_heap (hb2 _)]; rfl
    have b01:Below w.heap.size w w1:=b0.trans (bel_le b1 b0.size)
    have b2:Below w.heap.size w (w1.alloc (.cells #[.pointer none,.slice none 0 0] 34)):=b01.alloc b01.size _
    have hsz:24≤p.size∧p.size≤200:=by simp [planB] at hp; omega
    have hsi:-9223372036854775808≤p.size∧p.size≤9223372036854775807:=by omega
    have hi:=(p_itoa p.size hsi).str0 (hs.below b2) (xs:=#[.int .i64 p.size]) (by simp [RC,R])
    go_wp2_with (go_at_fn 11)
    refine hi.mono ?_
    rintro e w3 ⟨rfl,b3⟩
    have b03:Below w.heap.size w w3:=b2.trans (bel_le b3 b2.size)
    have hln1:=line_two (hs.below b03) wSize (Lib.itoa p.size) (by simp [wSize]) (by have:=itoa_len hsi; omega) 9
    go_wp2_with (go_at_fn 10)
    refine hln1.mono ?_
    rintro e w4 ⟨rfl,b4⟩
    have h13:w1.heap.size+1≤w3.heap.size:=by have:=b3.size; simp at this; exact this
    have h34:w3.heap.size+1≤w4.heap.size:=by have:=b4.size; simp at this; exact this
    have i2:Lib.IsBuilder 34 5 w1.heap.size w1.heap.size [] (w1.alloc (.cells #[.pointer none,.slice none 0 0] 34)):=Lib.fresh_isBuilder 34 5 w1
    have b24:Below (w1.alloc (.cells #[.pointer none,.slice none 0 0] 34)).heap.size (w1.alloc (.cells #[.pointer none,.slice none 0 0] 34)) w4:=b3.trans ((Below.refl _ w3).alloc (by simpa using h13) _ |>.trans (bel_le b4 (by simp; omega)))
    have i4:Lib.IsBuilder 34 5 w1.heap.size w1.heap.size [] w4:=isB_below i2 b24
    have b04:Below w.heap.size w w4:=b2.trans (bel_le b24 b2.size)
    have hws:=Any.Builder_WriteString lays_write lays1_join w1.heap.size w1.heap.size [] ⟨(sizeW p.size).toArray⟩ w4 i4 (by simp [ByteArray.size,sizeW,lineW,Lib.join_cons,Lib.joinTail,wSize]; have:=itoa_len hsi; omega) (by omega)
    go_wp2_with (go_at_fn 9)
    refine hws.mono ?_
    rintro e w5 ⟨rfl,i5,b5⟩
    have hb5:w5.heap[w.heap.size]?=some (.cells #[.int .i64 p.size,.slice a p.steps.length cap] 24 (0,0)):=by
      rw [b5.block _ hlt,b24.block _ (by simp; omega)]; exact hb2 _
    have c1:w5.cell? ⟨w.heap.size,1,none⟩=some (.slice a p.steps.length cap):=by rw [Lib.cell_of_heap hb5]; rfl
    have b05:Below w.heap.size w w5:=b04.trans (bel_le b5 (by omega))
    have e5:Lib.strCells ⟨(lineW [wSize,Lib.itoa p.size]).toArray⟩=Lib.byteCells (sizeW p.size):=Lib.strCells_eq _
    go_wp2
    have i6:Lib.IsBuilder 34 5 w1.heap.size w1.heap.size (Lib.byteCells (sizeW p.size)) w5:=by
      have:=i5
      rw [List.nil_append] at this
      exact .inr this
    have hok:=hln hp
    have hn2:p.steps.length≤200:=by simp [planB] at hp; omega
    have hsl:(sizeW p.size).length≤100:=by simp [sizeW,lineW,Lib.join_cons,Lib.joinTail,wSize]; have:=itoa_len hsi; omega
    clear i5 hln1 hi hws hright i4 i2 c0 c1 hb2
    go_loopw [19] (fun n W => ∃ i:Nat,n=.int .i64 i∧i≤p.steps.length∧(∃ t:Str,t=sizeW p.size++((p.steps.take i).map lineS).flatten∧t.length≤100+300000*i∧Lib.IsBuilder 34 5 w1.heap.size w1.heap.size (Lib.byteCells t) W)∧Below w.heap.size w W∧w1.heap.size≤W.heap.size) (fun n _ => match n with | .int _ k => (p.steps.length - k).toNat | _ => 0)
    case atStart => exact ⟨0,rfl,by omega,⟨_,by simp,by omega,i6⟩,b05,by have:=b5.size; omega⟩
    case round =>
      obtain ⟨i,rfl,hi,⟨t,ht,htl,hB⟩,bW,hW⟩:=hrel
      by_cases hlt2:(i:Int) < p.steps.length
      · have i1:i < p.steps.length:=by omega
        obtain ⟨az,y,bs,hcl,haz,hy,_,_⟩:=RL.get k2 k3 (mv_get (f:=stpV) i1)
        obtain ⟨b,o,rfl,hF⟩:∃ b o,a=some ⟨b,o,none⟩∧FAt (G0 F) b o cells:=by
          rcases k8 with k8 | k8
          · simp only [mv,List.map_eq_nil_iff] at k8; rw [k8] at i1; simp at i1
          · exact k8
        rw [hcl] at hF
        have hF1:=hF.sub
        rw [haz] at hF1
        have hrs:=hs.below bW
        have hC:=hF1.cells hrs
        have hy0:=hy
        simp only [stpV,R] at hy
        obtain ⟨ys,rfl,hrc,_⟩:=hy
        simp only [tasksV,RC,R] at hrc
        obtain ⟨_,_,hxs,rfl,_,_,rfl,rfl,_,_,rfl,rfl,_,_,rfl,rfl,_,_,rfl,rfl,_,_,rfl,rfl,_,_,rfl,rfl,_,_,rfl,⟨a7,c7,l7,rfl,_⟩,_,_,rfl,rfl,_,_,rfl,rfl,_,_,rfl,⟨a9,c9,l9,rfl,_⟩,rfl⟩:=hrc
        obtain ⟨x0,x1,x2,x3,x4,x5,x6,x7,x8,x9,x10,hxx⟩:=eleven (l:=ys.toList) (by rw [hxs]; rfl)
        obtain rfl:ys=_:=by apply Array.ext'; exact hxs
        clear hxx
        simp only [Value.cells] at hC
        clear hxs hF1 hF hcl
        have f0:=hC.cell (j:=0) rfl
        have f1:=hC.cell (j:=1) rfl
        have f2:=hC.cell (j:=2) rfl
        have f3:=hC.cell (j:=3) rfl
        have f4:=hC.cell (j:=4) rfl
        have f5:=hC.cell (j:=5) rfl
        have f6:=hC.cell (j:=6) rfl
        have f7:=hC.cell (j:=7) rfl
        have f8:=hC.cell (j:=8) rfl
        have f9:=hC.cell (j:=9) rfl
        have f10:=hC.cell (j:=10) rfl
        rw [Nat.add_zero] at f0
        clear hC
        have hmem:=List.getElem_mem i1
        have bA:∀ ob,Below wr.heap.size wr (wr.alloc ob):=fun ob => (Below.refl _ wr).alloc (Nat.le_refl _) ob
        go_wp2_with (go_at_fn 12)
        refine ((p_lineOf _ (hok _ hmem)).str0 (hs.below (bW.alloc bW.size _)) (by simp only [RC]; exact ⟨_,_,rfl,hy0,rfl⟩)).mono ?_
        rintro e w6 ⟨rfl,b6⟩
        have b6':=(bA _).trans (bel_le b6 (by simp))
        clear b6
        have hB6:=isB_below hB b6'
        have hll:(lineS p.steps[i]).length≤200001:=by have:=wordsS_len (hok _ hmem); simp only [lineS,lineW,List.length_append,List.length_singleton]; omega
        have hws2:=Any.Builder_WriteString lays_write lays1_join w1.heap.size w1.heap.size (Lib.byteCells t) ⟨(lineS p.steps[i]).toArray⟩ w6 hB6 (by simp only [Lib.byteCells,List.length_map,ByteArray.size,List.size_toArray]; omega) (by have:=b6'.size; omega)
        go_wp2_with (go_at_fn 9)
        refine hws2.mono ?_
        rintro e w7 ⟨rfl,i7,b7⟩
        clear hws2
        go_wp2
        go_roundw
        case rel =>
          refine ⟨i+1,by simp,by omega,⟨t++lineS p.steps[i], ?_,by simp only [List.length_append]; omega, ?_⟩, ?_, ?_⟩
          · rw [ht,List.take_succ_eq_append_getElem i1,List.map_append,List.flatten_append]; simp
          · refine .inr ?_
            rw [Lib.byteCells_append]; exact i7
          · exact (bW.trans (bel_le b6' bW.size)).trans (bel_le b7 (by have:=b01.size; omega))
          · have:=b6'.size; have:=b7.size; omega
        case measure =>
          simp
          omega
      · have hie:i=p.steps.length:=by omega
        subst hie
        rw [List.take_length] at ht
        have hst:=Any.Builder_String_any lays_string lays1_join w1.heap.size w1.heap.size t wr hB hW
        go_wp2_with (go_at_fn 13)
        refine hst.mono ?_
        rintro e w8 ⟨rfl,b8⟩
        go_wp2
        go_ret2
        exact ⟨by simp [printS,hp,planT,ht],bW.trans (bel_le b8 (by have:=b01.size; omega))⟩
theorem p_print (p:Pln) (h:∀ s∈p.steps,okStp s) (hln:planB p=true→∀ s∈p.steps,okLn s):PCall Tryd.prog 4 [plnV p] (.tup [.str (printS p).1,.int .i64 (printS p).2]):=by
  refine .of_below ⟨Tryd.f4,Tryd.func4,rfl,by kernel_rfl⟩ fun g m w xs hs hx => ?_
  simp only [RC] at hx
  obtain ⟨y,ys,e1,hy,rfl⟩:=hx
  obtain rfl:xs=#[y]:=by apply Array.ext'; simpa using e1
  have hs0:RS (G0 g.F) (fun _ => none) w:=⟨hs.fro,by simp,by simp,hs.tab⟩
  refine (print_walk p h hln g.F w y hs0 (R.closed (g:=g) (g':=G0 g.F) (fun _ _ k => k) _ _ (plnV_closed p) hy)).mono ?_
  rintro e w' ⟨rfl,hw⟩
  exact ⟨_,rfl,by simp [R,RC],hw⟩
end
def okAll (p:Pln):Prop:=(∀ s∈p.steps,okStp s∧(i64 s.cmd.token∧i64 s.cmd.time∧(∀ t∈s.cmd.dag.tasks,okTk t)∧∀ x∈s.masks,i64 x))∧p.steps.length≤4611686018427387904
theorem law_prints (p:Pln) (h:okAll p):PCall Tryd.prog 3 [plnV p] (.bool true):=by
  refine en3 (by simp) (by simp [closedL,plnV_closed]) ?_
  have hs:∀ s∈p.steps,okStp s:=fun s hs => (h.1 s hs).1
  have hln:planB p=true→∀ s∈p.steps,okLn s:=fun hp s hs => ⟨by simp [planB] at hp; exact hp.2 s hs,(h.1 s hs).2⟩
  have kp:=p_print p hs hln
  have kr:=r_right p hs h.2
  have kq:=p_right p hs
  have ka:=p_alive
  unfold plnV at kp kr kq
  simp (maxSteps:=1000000) (disch:=omega) only [rg,gD,simprocAttr,c3,plnV]
  refine ⟨_,kp, ?_⟩
  simp (maxSteps:=1000000) (disch:=omega) only [rg,gD,simprocAttr]
  refine ⟨_,kr, ?_⟩
  cases hp:planB p with
  | false =>
    simp (maxSteps:=1000000) (disch:=omega) only [rg,gD,simprocAttr]
    refine ⟨_,ka, ?_⟩
    simp (maxSteps:=1000000) (disch:=omega) only [rg,gD,simprocAttr]
    refine ⟨_,kq, ?_⟩
    simp (maxSteps:=1000000) (disch:=omega) only [rg,gD,simprocAttr,hp,printS]
    (refine fin_x rfl ?_ ?_<;>simp [pack,lo,loL,V.closed,closedL,mv_closed])
  | true =>
    have hsz:(24≤p.size∧p.size≤200)∧p.steps.length≤200:=by simp [planB] at hp; exact hp.1
    have kt:=r_plan p hsz.2 (by omega) (hln hp)
    unfold plnV at kt
    simp (maxSteps:=1000000) (disch:=omega) only [rg,gD,simprocAttr]
    refine ⟨_,ka, ?_⟩
    simp (maxSteps:=1000000) (disch:=omega) only [rg,gD,simprocAttr]
    refine ⟨_,kq, ?_⟩
    simp (maxSteps:=1000000) (disch:=omega) only [rg,gD,simprocAttr,hp,printS]
    refine ⟨_,kt, ?_⟩
    simp (maxSteps:=1000000) (disch:=omega) only [rg,gD,simprocAttr]
    (refine fin_x rfl ?_ ?_<;>simp [pack,lo,loL,V.closed,closedL,mv_closed])
def sTCmd:Ty:=.st (.cons yI (.cons .s (.cons .s (.cons yI (.cons yI (.cons .s (.cons (.st (fDag .nil)) .nil)))))))
def yStep:Ty:=.st (.cons sTCmd (.cons .b (.cons .b (.cons yIs .nil))))
def tPln:Ty:=.st (.cons yI (.cons (.l 11 144 yStep) .nil))
def sArg (s:Stp):Prop:=okStp s∧(i64 s.cmd.token∧i64 s.cmd.time∧(∀ t∈s.cmd.dag.tasks,okTk t)∧∀ x∈s.masks,i64 x)
theorem sReach:reachBytes≤140737488355328:=by decide
theorem step_of {us:List V} (h:TyV yStep us):∃ s:Stp,el yStep us=stpV s∧sArg s:=by
  obtain ⟨u0,w0,rfl,h0,v1,w1',rfl,⟨x1,rfl⟩,v2,w2',rfl,⟨x2,rfl⟩,v3,w3',rfl,h9,rfl⟩:=h
  obtain ⟨u1,w1,rfl,h1,u2,w2,rfl,h2,u3,w3,rfl,h3,u4,w4,rfl,h4,u5,w5,rfl,h5,u6,w6,rfl,h6,u7,w7,rfl,h7,rfl⟩:=h0
  obtain ⟨a,rfl,qa⟩:=yI_of h1
  obtain ⟨b,rfl,qb⟩:=yS_of h2
  obtain ⟨c,rfl,qc⟩:=yS_of h3
  obtain ⟨d,rfl,qd⟩:=yI_of h4
  obtain ⟨e,rfl,qe⟩:=yI_of h5
  obtain ⟨f,rfl,qf⟩:=yS_of h6
  obtain ⟨g,ws,rfl,⟨qg1,qg2,qg3⟩,hw⟩:=fDag_of (r:=.nil) h7
  obtain rfl:ws=[]:=hw
  obtain ⟨m,rfl,qm,qm2⟩:=yIs_of h9
  have hr:=sReach
  unfold okStr at qb qc qf qg1
  refine ⟨⟨⟨a,b,c,d,e,f,g⟩,x1,x2,m⟩,rfl,⟨⟨Nat.le_trans qb hr,Nat.le_trans qc hr,Nat.le_trans qf hr,by simp only; omega,fun t ht => ?_,fun t ht => ?_,qd.2,qe.2⟩,by simp only; omega⟩,qd,qe,fun t ht => ?_,qm2⟩
  · obtain ⟨_,z2,_⟩:=qg3 t ht
    omega
  · obtain ⟨z1,z2,z3,z4,z5⟩:=qg3 t ht
    exact ⟨fun x hx => (z1 x hx).2,z3.2,z4.2,z5.2⟩
  · obtain ⟨z1,z2,z3,z4,z5⟩:=qg3 t ht
    exact ⟨z1,z3,z4,z5⟩
theorem pln_of {vs:List V} (h:TyV tPln vs):∃ p:Pln,vs=[.int .i64 p.size,.fsl .loose 11 (mv stpV p.steps)]∧okAll p:=by
  obtain ⟨u1,w1,rfl,h1,u2,w2,rfl,h2,rfl⟩:=h
  obtain ⟨a,rfl,qa⟩:=yI_of h1
  obtain ⟨l,rfl,hl,hq⟩:=list_of (e:=yStep) (f:=stpV) (q:=sArg) (fun us hu => step_of hu) h2
  have hr:=sReach
  exact ⟨⟨a,l⟩,rfl,hq,by simp only; omega⟩
theorem row_prints (p:Pln) (h:okAll p):PCall Tryd.prog 3 [.agg [.int .i64 p.size,.fsl .loose 11 (mv stpV p.steps)]] (.bool true):=law_prints p h
end Go.Proofs.YtnglmdheiabdcaaDoor.Ev
